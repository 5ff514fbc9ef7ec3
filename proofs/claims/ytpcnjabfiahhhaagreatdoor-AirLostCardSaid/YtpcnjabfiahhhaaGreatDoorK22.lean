/- A part of the proof of RowAirFits, RowAirHeard, RowAirOrder, RowAirLost: lemmas alone, without conditions. -/
import Derived.Test.YtpcnjabfiahhhaaGreatDoorK21
import Derived.Test.YtpcnjabfiahhhaaGreatDoorK19
set_option linter.all false
namespace Go.Abs
theorem aE4 {a b : Int} (hb : 1 ≤ b) (h : ¬ a.tmod b < 0) : a.tdiv b = a / b := by
 rw [Int.tdiv_eq_ediv]
 rw [Int.tmod_eq_emod] at h
 have h1 := Int.emod_lt_of_pos a (b := b) (by omega)
 by_cases k : 0 ≤ a ∨ b ∣ a
 ·rw [if_pos k]; omega
 ·rw [if_neg k] at h
  have : (b.natAbs : Int) = b := by omega
  omega
theorem aE5 {a b : Int} (hb : 1 ≤ b) (h : a.tmod b < 0) : a.tdiv b - 1 = a / b := by
 rw [Int.tdiv_eq_ediv]
 rw [Int.tmod_eq_emod] at h
 have h2 := Int.emod_nonneg a (b := b) (by omega)
 by_cases k : 0 ≤ a ∨ b ∣ a
 ·rw [if_pos k] at h; omega
 ·rw [if_neg k, Int.sign_eq_one_of_pos (by omega)]; omega
theorem m8 {a b : Int} (hb : 1 ≤ b) : min a 0 ≤ a / b ∧ a / b ≤ max a 0 := by
 constructor
 ·by_cases h : 0 ≤ a
  ·have := Int.ediv_nonneg h (show 0 ≤ b by omega); omega
  ·have : a ≤ a / b := by
    rw [Int.le_ediv_iff_mul_le (by omega)]
    have := Int.mul_le_mul_of_nonpos_left (a := a) (b := b) (c := 1) (by omega) hb
    omega
   omega
 ·by_cases h : 0 ≤ a
  ·have := Int.ediv_le_self b h; omega
  ·have : a / b < 1 := (Int.ediv_lt_iff_lt_mul (by omega)).2 (by omega)
   omega
theorem P6 {a b : Int} (hb : 1 ≤ b) : min a 0 ≤ a.tdiv b ∧ a.tdiv b ≤ max a 0 := by
 have e3 := m8 (a := a) hb
 by_cases h : 0 ≤ a
 ·rw [Int.tdiv_eq_ediv_of_nonneg h]; exact e3
 ·have e4 := m8 (a := -a) hb
  have : (-a).tdiv b = (-a) / b := Int.tdiv_eq_ediv_of_nonneg (by omega)
  rw [Int.neg_tdiv] at this
  omega
theorem aIy {a b : Int} (hb : 1 ≤ b) (h : 0 < a.tmod b) : a.tdiv b + 1 = -((-a) / b) := by
 have h2 : (-a).tmod b < 0 := by rw [Int.neg_tmod]; omega
 have := aE5 hb h2
 rw [Int.neg_tdiv] at this
 omega
theorem aGc {a b : Int} (hb : 1 ≤ b) (h : ¬ 0 < a.tmod b) : a.tdiv b = -((-a) / b) := by
 have h2 : ¬ (-a).tmod b < 0 := by rw [Int.neg_tmod]; omega
 have := aE4 hb h2
 rw [Int.neg_tdiv] at this
 omega
def yD (r : BitVec 32) : BitVec 32 := if r.msb then (r <<< 1) ^^^ 0x04c11db7#32 else r <<< 1
def aAa : Nat → BitVec 32 → BitVec 32
 | 0, r => r
 | n + 1, r => aAa n (yD r)
theorem aCr (n : Nat) (r : BitVec 32) : aAa (n + 1) r = yD (aAa n r) := by
 induction n generalizing r with
 | zero => rfl
 | succ n ih => show aAa (n + 1) (yD r) = _; rw [ih]; rfl
theorem aQs (r : BitVec 32) : r.msb = decide (2147483648 ≤ r.toNat) := by
 rw [BitVec.msb_eq_decide]
theorem aNy (r : BitVec 32) : (r &&& 2147483648#32) = if r.msb then 2147483648#32 else 0#32 := by
 have h : (2147483648#32) = BitVec.twoPow 32 31 := rfl
 rw [h, BitVec.and_twoPow, BitVec.msb_eq_getLsbD_last]
theorem aNz (r : BitVec 32) : (r <<< 1).toNat = (r.toNat * 2) % 4294967296 := by
 rw [BitVec.toNat_shiftLeft, Nat.shiftLeft_eq]
theorem aYy (r : BitVec 32) : r.toNat / 2147483648 = if r.msb then 1 else 0 := by
 rw [aQs]
 have := r.isLt
 split <;> simp_all <;> omega
theorem wD (r : BitVec 32) : BitVec.ofInt 32 (r.toNat : Int) = r := by
 rw [BitVec.ofInt_natCast, BitVec.ofNat_toNat, BitVec.setWidth_eq]
theorem aO0 {w j : Nat} (a : Int) (hj : j ≤ w) : (BitVec.ofInt w a &&& BitVec.ofInt w (((2 ^ j - 1 : Nat)) : Int)).toNat = (a % ((2 ^ j : Nat) : Int)).toNat := by
 rw [BitVec.toNat_and, BitVec.toNat_ofInt, BitVec.ofInt_natCast, BitVec.toNat_ofNat]
 have hp : (2 : Nat) ^ j - 1 < 2 ^ w := by
  have := Nat.pow_le_pow_right (show 2 > 0 by decide) hj
  have := Nat.pow_pos (n := j) (show 0 < 2 by decide)
  omega
 rw [Nat.mod_eq_of_lt hp, Nat.and_two_pow_sub_one_eq_mod]
 have h1 : 0 ≤ a % ((2 ^ w : Nat) : Int) := Int.emod_nonneg _ (by have := Nat.pow_pos (n := w) (show 0 < 2 by decide); omega)
 have h2 : 0 ≤ a % ((2 ^ j : Nat) : Int) := Int.emod_nonneg _ (by have := Nat.pow_pos (n := j) (show 0 < 2 by decide); omega)
 have hd : ((2 ^ j : Nat) : Int) ∣ ((2 ^ w : Nat) : Int) := Int.natCast_dvd_natCast.2 (Nat.pow_dvd_pow 2 hj)
 apply Int.ofNat.inj
 show (((a % ((2 ^ w : Nat) : Int)).toNat % 2 ^ j : Nat) : Int) = ((a % ((2 ^ j : Nat) : Int)).toNat : Int)
 rw [Int.natCast_emod, Int.toNat_of_nonneg h1, Int.toNat_of_nonneg h2, Int.emod_emod_of_dvd _ hd]
theorem aO1 {j : Nat} (a : Int) (hj : j ≤ 62) : IntKind.i64.wrap (BitVec.ofInt 64 a &&& BitVec.ofInt 64 (((2 ^ j - 1 : Nat)) : Int)).toNat = a % ((2 ^ j : Nat) : Int) := by
 rw [aO0 a (by omega)]
 have hp : 0 < (2 : Nat) ^ j := Nat.pow_pos (by decide)
 have h2 : 0 ≤ a % ((2 ^ j : Nat) : Int) := Int.emod_nonneg _ (by omega)
 have h3 : a % ((2 ^ j : Nat) : Int) < ((2 ^ j : Nat) : Int) := Int.emod_lt_of_pos _ (by omega)
 have h4 : (2 : Nat) ^ j ≤ 2 ^ 62 := Nat.pow_le_pow_right (by decide) hj
 rw [Int.toNat_of_nonneg h2, IntWalk.i64_in _ (by omega)]
theorem aQt {w j x c : Nat} (hx : x < 2 ^ w) (hw : j ≤ w) (hd : x % 2 ^ j = 0) (hc : c < 2 ^ j) : (BitVec.ofInt w (x : Int) ||| BitVec.ofInt w (c : Int)).toNat = x + c := by
 have hcw : c < 2 ^ w := Nat.lt_of_lt_of_le hc (Nat.pow_le_pow_right (by decide) hw)
 rw [BitVec.toNat_or, BitVec.ofInt_natCast, BitVec.ofInt_natCast, BitVec.toNat_ofNat, BitVec.toNat_ofNat, Nat.mod_eq_of_lt hx, Nat.mod_eq_of_lt hcw]
 have : x = (x / 2 ^ j) <<< j := by rw [Nat.shiftLeft_eq]; have := Nat.div_add_mod x (2 ^ j); rw [hd, Nat.mul_comm] at this; omega
 rw [this, ← Nat.shiftLeft_add_eq_or_of_lt hc]
def be (n : Int) : Nat → List UInt8
 | 0 => []
 | w + 1 => be (n / 256) w ++ [b8 n]
theorem i4 (n : Int) (w : Nat) : (be n w).length = w := by
 induction w generalizing n with
 | zero => rfl
 | succ w ih => simp [be, ih]
def cW (l : List UInt8) : Int := l.foldl (fun n c => n * 256 + (c.toNat : Int)) 0
theorem aKl (l : List UInt8) (c : UInt8) : cW (l ++ [c]) = cW l * 256 + (c.toNat : Int) := by
 unfold cW; rw [List.foldl_append]; rfl
theorem aQu (l : List UInt8) : 0 ≤ cW l := by
 suffices h : ∀ (l : List UInt8) (a : Int), 0 ≤ a → 0 ≤ l.foldl (fun n c => n * 256 + (c.toNat : Int)) a from h l 0 (by omega)
 intro l
 induction l with
 | nil => intro a h; exact h
 | cons c l ih => intro a h; exact ih _ (show 0 ≤ a * 256 + (c.toNat : Int) by omega)
theorem aQv (l : List UInt8) : cW l < 256 ^ l.length := by
 suffices h : ∀ (l : List UInt8) (a : Int), l.foldl (fun n c => n * 256 + (c.toNat : Int)) a < (a + 1) * 256 ^ l.length by
  have := h l 0; simpa [cW] using this
 intro l
 induction l with
 | nil => intro a; simp; omega
 | cons c l ih =>
   intro a
   have h1 := ih (a * 256 + (c.toNat : Int))
   have h2 : (c.toNat : Int) + 1 ≤ 256 := by have := c.toNat_lt; omega
   have h3 : (a * 256 + (c.toNat : Int) + 1) * 256 ^ l.length ≤ ((a + 1) * 256) * 256 ^ l.length := Int.mul_le_mul_of_nonneg_right (by omega) (Int.le_of_lt (Int.pow_pos (by decide)))
   rw [List.length_cons, Int.pow_succ, Int.mul_comm (256 ^ l.length) 256, ← Int.mul_assoc]
   exact Int.lt_of_lt_of_le h1 h3
theorem aUq (a b : Int) (h : a % 256 = b % 256) : b8 a = b8 b := by
 have : IntKind.u8.wrap a = IntKind.u8.wrap b := by rw [IntKind.wrap_u8, IntKind.wrap_u8, h]
 unfold b8; rw [this]
theorem aUr (n : Int) (w : Nat) (k : Int) : be (n + k * 256 ^ w) w = be n w := by
 induction w generalizing n with
 | zero => rfl
 | succ w ih =>
   rw [be, be, Int.pow_succ, ← Int.mul_assoc, Int.add_mul_ediv_right _ _ (by decide), ih]
   rw [aUq (n + k * 256 ^ w * 256) n (Int.add_mul_emod_self_right ..)]
end Go.Abs
namespace Go.Abs
structure Part where
 nodes : Int
 faults : Int
 deriving DecidableEq, Inhabited
def Part.enc (x : Part) : List V := [.int .i64 x.nodes, .int .i64 x.faults]
abbrev Part.v (x : Part) : V := .agg [.int .i64 x.nodes, .int .i64 x.faults]
instance : Cel Part := ⟨2, Part.enc, fun _ => rfl, fun m x => aD aI (aD aI (jI)), fun _ => rfl⟩
instance (x : Part) : Expl x [.int .i64 x.nodes, .int .i64 x.faults] := ⟨rfl⟩
instance (priority := high) {a1 : Int} {a2 : Int} : Expl (⟨a1, a2⟩ : Part) [.int .i64 a1, .int .i64 a2] := ⟨rfl⟩
instance {a1 : Int} {a2 : Int} {r : List V} {xs : List Part}  [h : FoldL Part r xs] : FoldL Part (.int .i64 a1 :: .int .i64 a2 :: r) (⟨a1, a2⟩ :: xs) := ⟨by rw [bL, ← h.eq]; rfl⟩
structure Link where
 a : Int
 b : Int
 pa0 : Int
 pa1 : Int
 pb0 : Int
 pb1 : Int
 deriving DecidableEq, Inhabited
def Link.enc (x : Link) : List V := [.int .i64 x.a, .int .i64 x.b, .int .i64 x.pa0, .int .i64 x.pa1, .int .i64 x.pb0, .int .i64 x.pb1]
abbrev Link.v (x : Link) : V := .agg [.int .i64 x.a, .int .i64 x.b, .int .i64 x.pa0, .int .i64 x.pa1, .int .i64 x.pb0, .int .i64 x.pb1]
instance : Cel Link := ⟨6, Link.enc, fun _ => rfl, fun m x => aD aI (aD aI (aD aI (aD aI (aD aI (aD aI (jI)))))), fun _ => rfl⟩
instance (x : Link) : Expl x [.int .i64 x.a, .int .i64 x.b, .int .i64 x.pa0, .int .i64 x.pa1, .int .i64 x.pb0, .int .i64 x.pb1] := ⟨rfl⟩
instance (priority := high) {a1 : Int} {a2 : Int} {a3 : Int} {a4 : Int} {a5 : Int} {a6 : Int} : Expl (⟨a1, a2, a3, a4, a5, a6⟩ : Link) [.int .i64 a1, .int .i64 a2, .int .i64 a3, .int .i64 a4, .int .i64 a5, .int .i64 a6] := ⟨rfl⟩
instance {a1 : Int} {a2 : Int} {a3 : Int} {a4 : Int} {a5 : Int} {a6 : Int} {r : List V} {xs : List Link}  [h : FoldL Link r xs] : FoldL Link (.int .i64 a1 :: .int .i64 a2 :: .int .i64 a3 :: .int .i64 a4 :: .int .i64 a5 :: .int .i64 a6 :: r) (⟨a1, a2, a3, a4, a5, a6⟩ :: xs) := ⟨by rw [bL, ← h.eq]; rfl⟩
structure Port where
 node : Int
 link : Int
 gate : Int
 side : Int
 deriving DecidableEq, Inhabited
def Port.enc (x : Port) : List V := [.int .i64 x.node, .int .i64 x.link, .int .i64 x.gate, .int .i64 x.side]
abbrev Port.v (x : Port) : V := .agg [.int .i64 x.node, .int .i64 x.link, .int .i64 x.gate, .int .i64 x.side]
instance : Cel Port := ⟨4, Port.enc, fun _ => rfl, fun m x => aD aI (aD aI (aD aI (aD aI (jI)))), fun _ => rfl⟩
instance (x : Port) : Expl x [.int .i64 x.node, .int .i64 x.link, .int .i64 x.gate, .int .i64 x.side] := ⟨rfl⟩
instance (priority := high) {a1 : Int} {a2 : Int} {a3 : Int} {a4 : Int} : Expl (⟨a1, a2, a3, a4⟩ : Port) [.int .i64 a1, .int .i64 a2, .int .i64 a3, .int .i64 a4] := ⟨rfl⟩
instance {a1 : Int} {a2 : Int} {a3 : Int} {a4 : Int} {r : List V} {xs : List Port}  [h : FoldL Port r xs] : FoldL Port (.int .i64 a1 :: .int .i64 a2 :: .int .i64 a3 :: .int .i64 a4 :: r) (⟨a1, a2, a3, a4⟩ :: xs) := ⟨by rw [bL, ← h.eq]; rfl⟩
structure Slot where
 kind : Int
 node : Int
 off : Int
 deriving DecidableEq, Inhabited
def Slot.enc (x : Slot) : List V := [.int .i64 x.kind, .int .i64 x.node, .int .i64 x.off]
abbrev Slot.v (x : Slot) : V := .agg [.int .i64 x.kind, .int .i64 x.node, .int .i64 x.off]
instance : Cel Slot := ⟨3, Slot.enc, fun _ => rfl, fun m x => aD aI (aD aI (aD aI (jI))), fun _ => rfl⟩
instance (x : Slot) : Expl x [.int .i64 x.kind, .int .i64 x.node, .int .i64 x.off] := ⟨rfl⟩
instance (priority := high) {a1 : Int} {a2 : Int} {a3 : Int} : Expl (⟨a1, a2, a3⟩ : Slot) [.int .i64 a1, .int .i64 a2, .int .i64 a3] := ⟨rfl⟩
instance {a1 : Int} {a2 : Int} {a3 : Int} {r : List V} {xs : List Slot}  [h : FoldL Slot r xs] : FoldL Slot (.int .i64 a1 :: .int .i64 a2 :: .int .i64 a3 :: r) (⟨a1, a2, a3⟩ :: xs) := ⟨by rw [bL, ← h.eq]; rfl⟩
structure Say where
 slot : Int
 bytes : List (UInt8)
 tim : Int
 deriving DecidableEq, Inhabited
def Say.enc (x : Say) : List V := [.int .i64 x.slot, .sl none x.bytes.length (enL x.bytes), .int .i64 x.tim]
abbrev Say.v (x : Say) : V := .agg [.int .i64 x.slot, .sl none x.bytes.length (enL x.bytes), .int .i64 x.tim]
instance : Cel Say := ⟨3, Say.enc, fun _ => rfl, fun m x => aD aI (aD (pE (fI m _)) (aD aI (jI))), fun _ => rfl⟩
instance (x : Say) : Expl x [.int .i64 x.slot, .sl none x.bytes.length (enL x.bytes), .int .i64 x.tim] := ⟨rfl⟩
instance (priority := high) {a1 : Int} {a2 : List (UInt8)} {a3 : Int} : Expl (⟨a1, a2, a3⟩ : Say) [.int .i64 a1, .sl none a2.length (enL a2), .int .i64 a3] := ⟨rfl⟩
instance {a1 : Int} {a2 : List (UInt8)} {v2 : V} {a3 : Int} {r : List V} {xs : List Say} [h2 : SlL (UInt8) v2 a2] [h : FoldL Say r xs] : FoldL Say (.int .i64 a1 :: v2 :: .int .i64 a3 :: r) (⟨a1, a2, a3⟩ :: xs) := ⟨by rw [bL, ← h.eq, h2.eq]; rfl⟩
structure Frame where
 kind : Int
 part : Int
 node : Int
 wait : Int
 mask : Int
 link : Int
 flag : Bool
 cycle : Int
 offset : Int
 ages : List (Int)
 frm : Int
 to : Int
 seq : Int
 body : List (UInt8)
 deriving DecidableEq, Inhabited
def Frame.enc (x : Frame) : List V := [.int .i64 x.kind, .int .i64 x.part, .int .i64 x.node, .int .i64 x.wait, .int .i64 x.mask, .int .i64 x.link, .bool x.flag, .int .i64 x.cycle, .int .i64 x.offset, .sl none x.ages.length (enL x.ages), .int .i64 x.frm, .int .i64 x.to, .int .i64 x.seq, .sl none x.body.length (enL x.body)]
abbrev Frame.v (x : Frame) : V := .agg [.int .i64 x.kind, .int .i64 x.part, .int .i64 x.node, .int .i64 x.wait, .int .i64 x.mask, .int .i64 x.link, .bool x.flag, .int .i64 x.cycle, .int .i64 x.offset, .sl none x.ages.length (enL x.ages), .int .i64 x.frm, .int .i64 x.to, .int .i64 x.seq, .sl none x.body.length (enL x.body)]
instance : Cel Frame := ⟨14, Frame.enc, fun _ => rfl, fun m x => aD aI (aD aI (aD aI (aD aI (aD aI (aD aI (aD tH (aD aI (aD aI (aD (pE (fI m _)) (aD aI (aD aI (aD aI (aD (pE (fI m _)) (jI)))))))))))))), fun _ => rfl⟩
instance (x : Frame) : Expl x [.int .i64 x.kind, .int .i64 x.part, .int .i64 x.node, .int .i64 x.wait, .int .i64 x.mask, .int .i64 x.link, .bool x.flag, .int .i64 x.cycle, .int .i64 x.offset, .sl none x.ages.length (enL x.ages), .int .i64 x.frm, .int .i64 x.to, .int .i64 x.seq, .sl none x.body.length (enL x.body)] := ⟨rfl⟩
instance (priority := high) {a1 : Int} {a2 : Int} {a3 : Int} {a4 : Int} {a5 : Int} {a6 : Int} {a7 : Bool} {a8 : Int} {a9 : Int} {a10 : List (Int)} {a11 : Int} {a12 : Int} {a13 : Int} {a14 : List (UInt8)} : Expl (⟨a1, a2, a3, a4, a5, a6, a7, a8, a9, a10, a11, a12, a13, a14⟩ : Frame) [.int .i64 a1, .int .i64 a2, .int .i64 a3, .int .i64 a4, .int .i64 a5, .int .i64 a6, .bool a7, .int .i64 a8, .int .i64 a9, .sl none a10.length (enL a10), .int .i64 a11, .int .i64 a12, .int .i64 a13, .sl none a14.length (enL a14)] := ⟨rfl⟩
instance {a1 : Int} {a2 : Int} {a3 : Int} {a4 : Int} {a5 : Int} {a6 : Int} {a7 : Bool} {a8 : Int} {a9 : Int} {a10 : List (Int)} {v10 : V} {a11 : Int} {a12 : Int} {a13 : Int} {a14 : List (UInt8)} {v14 : V} {r : List V} {xs : List Frame} [h10 : SlL (Int) v10 a10] [h14 : SlL (UInt8) v14 a14] [h : FoldL Frame r xs] : FoldL Frame (.int .i64 a1 :: .int .i64 a2 :: .int .i64 a3 :: .int .i64 a4 :: .int .i64 a5 :: .int .i64 a6 :: .bool a7 :: .int .i64 a8 :: .int .i64 a9 :: v10 :: .int .i64 a11 :: .int .i64 a12 :: .int .i64 a13 :: v14 :: r) (⟨a1, a2, a3, a4, a5, a6, a7, a8, a9, a10, a11, a12, a13, a14⟩ :: xs) := ⟨by rw [bL, ← h.eq, h10.eq, h14.eq]; rfl⟩
structure Config where
 parts : List (Part)
 links : List (Link)
 cycle : Int
 lead : Int
 slot : Int
 window : Int
 drift : Int
 rate : Int
 ages : Int
 lost : Int
 listen : Int
 span : Int
 room : Int
 deriving DecidableEq, Inhabited
def Config.enc (x : Config) : List V := [.sl none x.parts.length (enL x.parts), .sl none x.links.length (enL x.links), .int .i64 x.cycle, .int .i64 x.lead, .int .i64 x.slot, .int .i64 x.window, .int .i64 x.drift, .int .i64 x.rate, .int .i64 x.ages, .int .i64 x.lost, .int .i64 x.listen, .int .i64 x.span, .int .i64 x.room]
abbrev Config.v (x : Config) : V := .agg [.sl none x.parts.length (enL x.parts), .sl none x.links.length (enL x.links), .int .i64 x.cycle, .int .i64 x.lead, .int .i64 x.slot, .int .i64 x.window, .int .i64 x.drift, .int .i64 x.rate, .int .i64 x.ages, .int .i64 x.lost, .int .i64 x.listen, .int .i64 x.span, .int .i64 x.room]
instance : Cel Config := ⟨13, Config.enc, fun _ => rfl, fun m x => aD (pE (fI m _)) (aD (pE (fI m _)) (aD aI (aD aI (aD aI (aD aI (aD aI (aD aI (aD aI (aD aI (aD aI (aD aI (aD aI (jI))))))))))))), fun _ => rfl⟩
instance (x : Config) : Expl x [.sl none x.parts.length (enL x.parts), .sl none x.links.length (enL x.links), .int .i64 x.cycle, .int .i64 x.lead, .int .i64 x.slot, .int .i64 x.window, .int .i64 x.drift, .int .i64 x.rate, .int .i64 x.ages, .int .i64 x.lost, .int .i64 x.listen, .int .i64 x.span, .int .i64 x.room] := ⟨rfl⟩
instance (priority := high) {a1 : List (Part)} {a2 : List (Link)} {a3 : Int} {a4 : Int} {a5 : Int} {a6 : Int} {a7 : Int} {a8 : Int} {a9 : Int} {a10 : Int} {a11 : Int} {a12 : Int} {a13 : Int} : Expl (⟨a1, a2, a3, a4, a5, a6, a7, a8, a9, a10, a11, a12, a13⟩ : Config) [.sl none a1.length (enL a1), .sl none a2.length (enL a2), .int .i64 a3, .int .i64 a4, .int .i64 a5, .int .i64 a6, .int .i64 a7, .int .i64 a8, .int .i64 a9, .int .i64 a10, .int .i64 a11, .int .i64 a12, .int .i64 a13] := ⟨rfl⟩
instance {a1 : List (Part)} {v1 : V} {a2 : List (Link)} {v2 : V} {a3 : Int} {a4 : Int} {a5 : Int} {a6 : Int} {a7 : Int} {a8 : Int} {a9 : Int} {a10 : Int} {a11 : Int} {a12 : Int} {a13 : Int} {r : List V} {xs : List Config} [h1 : SlL (Part) v1 a1] [h2 : SlL (Link) v2 a2] [h : FoldL Config r xs] : FoldL Config (v1 :: v2 :: .int .i64 a3 :: .int .i64 a4 :: .int .i64 a5 :: .int .i64 a6 :: .int .i64 a7 :: .int .i64 a8 :: .int .i64 a9 :: .int .i64 a10 :: .int .i64 a11 :: .int .i64 a12 :: .int .i64 a13 :: r) (⟨a1, a2, a3, a4, a5, a6, a7, a8, a9, a10, a11, a12, a13⟩ :: xs) := ⟨by rw [bL, ← h.eq, h1.eq, h2.eq]; rfl⟩
structure Heard where
 slot : Int
 frame : Frame
 tim : Int
 deriving DecidableEq, Inhabited
def Heard.enc (x : Heard) : List V := [.int .i64 x.slot, .int .i64 x.frame.kind, .int .i64 x.frame.part, .int .i64 x.frame.node, .int .i64 x.frame.wait, .int .i64 x.frame.mask, .int .i64 x.frame.link, .bool x.frame.flag, .int .i64 x.frame.cycle, .int .i64 x.frame.offset, .sl none x.frame.ages.length (enL x.frame.ages), .int .i64 x.frame.frm, .int .i64 x.frame.to, .int .i64 x.frame.seq, .sl none x.frame.body.length (enL x.frame.body), .int .i64 x.tim]
abbrev Heard.v (x : Heard) : V := .agg [.int .i64 x.slot, .int .i64 x.frame.kind, .int .i64 x.frame.part, .int .i64 x.frame.node, .int .i64 x.frame.wait, .int .i64 x.frame.mask, .int .i64 x.frame.link, .bool x.frame.flag, .int .i64 x.frame.cycle, .int .i64 x.frame.offset, .sl none x.frame.ages.length (enL x.frame.ages), .int .i64 x.frame.frm, .int .i64 x.frame.to, .int .i64 x.frame.seq, .sl none x.frame.body.length (enL x.frame.body), .int .i64 x.tim]
instance : Cel Heard := ⟨16, Heard.enc, fun _ => rfl, fun m x => aD aI (aD aI (aD aI (aD aI (aD aI (aD aI (aD aI (aD tH (aD aI (aD aI (aD (pE (fI m _)) (aD aI (aD aI (aD aI (aD (pE (fI m _)) (aD aI (jI)))))))))))))))), fun _ => rfl⟩
instance (x : Heard) : Expl x [.int .i64 x.slot, .int .i64 x.frame.kind, .int .i64 x.frame.part, .int .i64 x.frame.node, .int .i64 x.frame.wait, .int .i64 x.frame.mask, .int .i64 x.frame.link, .bool x.frame.flag, .int .i64 x.frame.cycle, .int .i64 x.frame.offset, .sl none x.frame.ages.length (enL x.frame.ages), .int .i64 x.frame.frm, .int .i64 x.frame.to, .int .i64 x.frame.seq, .sl none x.frame.body.length (enL x.frame.body), .int .i64 x.tim] := ⟨rfl⟩
instance (priority := high) {a1 : Int} {a2 : Int} {a3 : Int} {a4 : Int} {a5 : Int} {a6 : Int} {a7 : Int} {a8 : Bool} {a9 : Int} {a10 : Int} {a11 : List (Int)} {a12 : Int} {a13 : Int} {a14 : Int} {a15 : List (UInt8)} {a16 : Int} : Expl (⟨a1, ⟨a2, a3, a4, a5, a6, a7, a8, a9, a10, a11, a12, a13, a14, a15⟩, a16⟩ : Heard) [.int .i64 a1, .int .i64 a2, .int .i64 a3, .int .i64 a4, .int .i64 a5, .int .i64 a6, .int .i64 a7, .bool a8, .int .i64 a9, .int .i64 a10, .sl none a11.length (enL a11), .int .i64 a12, .int .i64 a13, .int .i64 a14, .sl none a15.length (enL a15), .int .i64 a16] := ⟨rfl⟩
instance {a1 : Int} {a2 : Int} {a3 : Int} {a4 : Int} {a5 : Int} {a6 : Int} {a7 : Int} {a8 : Bool} {a9 : Int} {a10 : Int} {a11 : List (Int)} {v11 : V} {a12 : Int} {a13 : Int} {a14 : Int} {a15 : List (UInt8)} {v15 : V} {a16 : Int} {r : List V} {xs : List Heard} [h11 : SlL (Int) v11 a11] [h15 : SlL (UInt8) v15 a15] [h : FoldL Heard r xs] : FoldL Heard (.int .i64 a1 :: .int .i64 a2 :: .int .i64 a3 :: .int .i64 a4 :: .int .i64 a5 :: .int .i64 a6 :: .int .i64 a7 :: .bool a8 :: .int .i64 a9 :: .int .i64 a10 :: v11 :: .int .i64 a12 :: .int .i64 a13 :: .int .i64 a14 :: v15 :: .int .i64 a16 :: r) (⟨a1, ⟨a2, a3, a4, a5, a6, a7, a8, a9, a10, a11, a12, a13, a14, a15⟩, a16⟩ :: xs) := ⟨by rw [bL, ← h.eq, h11.eq, h15.eq]; rfl⟩
structure Guard where
 on : Bool
 start : Int
 ages : List (Int)
 deriving DecidableEq, Inhabited
def Guard.enc (x : Guard) : List V := [.bool x.on, .int .i64 x.start, .sl none x.ages.length (enL x.ages)]
abbrev Guard.v (x : Guard) : V := .agg [.bool x.on, .int .i64 x.start, .sl none x.ages.length (enL x.ages)]
instance : Cel Guard := ⟨3, Guard.enc, fun _ => rfl, fun m x => aD tH (aD aI (aD (pE (fI m _)) (jI))), fun _ => rfl⟩
instance (x : Guard) : Expl x [.bool x.on, .int .i64 x.start, .sl none x.ages.length (enL x.ages)] := ⟨rfl⟩
instance (priority := high) {a1 : Bool} {a2 : Int} {a3 : List (Int)} : Expl (⟨a1, a2, a3⟩ : Guard) [.bool a1, .int .i64 a2, .sl none a3.length (enL a3)] := ⟨rfl⟩
instance {a1 : Bool} {a2 : Int} {a3 : List (Int)} {v3 : V} {r : List V} {xs : List Guard} [h3 : SlL (Int) v3 a3] [h : FoldL Guard r xs] : FoldL Guard (.bool a1 :: .int .i64 a2 :: v3 :: r) (⟨a1, a2, a3⟩ :: xs) := ⟨by rw [bL, ← h.eq, h3.eq]; rfl⟩
structure Offer where
 node : Int
 link : Int
 slot : Int
 flag : Bool
 cycle : Int
 offset : Int
 tim : Int
 ages : List (Int)
 deriving DecidableEq, Inhabited
def Offer.enc (x : Offer) : List V := [.int .i64 x.node, .int .i64 x.link, .int .i64 x.slot, .bool x.flag, .int .i64 x.cycle, .int .i64 x.offset, .int .i64 x.tim, .sl none x.ages.length (enL x.ages)]
abbrev Offer.v (x : Offer) : V := .agg [.int .i64 x.node, .int .i64 x.link, .int .i64 x.slot, .bool x.flag, .int .i64 x.cycle, .int .i64 x.offset, .int .i64 x.tim, .sl none x.ages.length (enL x.ages)]
instance : Cel Offer := ⟨8, Offer.enc, fun _ => rfl, fun m x => aD aI (aD aI (aD aI (aD tH (aD aI (aD aI (aD aI (aD (pE (fI m _)) (jI)))))))), fun _ => rfl⟩
instance (x : Offer) : Expl x [.int .i64 x.node, .int .i64 x.link, .int .i64 x.slot, .bool x.flag, .int .i64 x.cycle, .int .i64 x.offset, .int .i64 x.tim, .sl none x.ages.length (enL x.ages)] := ⟨rfl⟩
instance (priority := high) {a1 : Int} {a2 : Int} {a3 : Int} {a4 : Bool} {a5 : Int} {a6 : Int} {a7 : Int} {a8 : List (Int)} : Expl (⟨a1, a2, a3, a4, a5, a6, a7, a8⟩ : Offer) [.int .i64 a1, .int .i64 a2, .int .i64 a3, .bool a4, .int .i64 a5, .int .i64 a6, .int .i64 a7, .sl none a8.length (enL a8)] := ⟨rfl⟩
instance {a1 : Int} {a2 : Int} {a3 : Int} {a4 : Bool} {a5 : Int} {a6 : Int} {a7 : Int} {a8 : List (Int)} {v8 : V} {r : List V} {xs : List Offer} [h8 : SlL (Int) v8 a8] [h : FoldL Offer r xs] : FoldL Offer (.int .i64 a1 :: .int .i64 a2 :: .int .i64 a3 :: .bool a4 :: .int .i64 a5 :: .int .i64 a6 :: .int .i64 a7 :: v8 :: r) (⟨a1, a2, a3, a4, a5, a6, a7, a8⟩ :: xs) := ⟨by rw [bL, ← h.eq, h8.eq]; rfl⟩
structure View where
 c : Config
 part : Int
 slots : List (Slot)
 ports : List (Port)
 edge : Int
 near : Int
 slew : Int
 step : Int
 jump : Int
 tick : Int
 gone : Int
 deriving DecidableEq, Inhabited
def View.enc (x : View) : List V := [.sl none x.c.parts.length (enL x.c.parts), .sl none x.c.links.length (enL x.c.links), .int .i64 x.c.cycle, .int .i64 x.c.lead, .int .i64 x.c.slot, .int .i64 x.c.window, .int .i64 x.c.drift, .int .i64 x.c.rate, .int .i64 x.c.ages, .int .i64 x.c.lost, .int .i64 x.c.listen, .int .i64 x.c.span, .int .i64 x.c.room, .int .i64 x.part, .sl none x.slots.length (enL x.slots), .sl none x.ports.length (enL x.ports), .int .i64 x.edge, .int .i64 x.near, .int .i64 x.slew, .int .i64 x.step, .int .i64 x.jump, .int .i64 x.tick, .int .i64 x.gone]
abbrev View.v (x : View) : V := .agg [.sl none x.c.parts.length (enL x.c.parts), .sl none x.c.links.length (enL x.c.links), .int .i64 x.c.cycle, .int .i64 x.c.lead, .int .i64 x.c.slot, .int .i64 x.c.window, .int .i64 x.c.drift, .int .i64 x.c.rate, .int .i64 x.c.ages, .int .i64 x.c.lost, .int .i64 x.c.listen, .int .i64 x.c.span, .int .i64 x.c.room, .int .i64 x.part, .sl none x.slots.length (enL x.slots), .sl none x.ports.length (enL x.ports), .int .i64 x.edge, .int .i64 x.near, .int .i64 x.slew, .int .i64 x.step, .int .i64 x.jump, .int .i64 x.tick, .int .i64 x.gone]
instance : Cel View := ⟨23, View.enc, fun _ => rfl, fun m x => aD (pE (fI m _)) (aD (pE (fI m _)) (aD aI (aD aI (aD aI (aD aI (aD aI (aD aI (aD aI (aD aI (aD aI (aD aI (aD aI (aD aI (aD (pE (fI m _)) (aD (pE (fI m _)) (aD aI (aD aI (aD aI (aD aI (aD aI (aD aI (aD aI (jI))))))))))))))))))))))), fun _ => rfl⟩
instance (x : View) : Expl x [.sl none x.c.parts.length (enL x.c.parts), .sl none x.c.links.length (enL x.c.links), .int .i64 x.c.cycle, .int .i64 x.c.lead, .int .i64 x.c.slot, .int .i64 x.c.window, .int .i64 x.c.drift, .int .i64 x.c.rate, .int .i64 x.c.ages, .int .i64 x.c.lost, .int .i64 x.c.listen, .int .i64 x.c.span, .int .i64 x.c.room, .int .i64 x.part, .sl none x.slots.length (enL x.slots), .sl none x.ports.length (enL x.ports), .int .i64 x.edge, .int .i64 x.near, .int .i64 x.slew, .int .i64 x.step, .int .i64 x.jump, .int .i64 x.tick, .int .i64 x.gone] := ⟨rfl⟩
instance (priority := high) {a1 : List (Part)} {a2 : List (Link)} {a3 : Int} {a4 : Int} {a5 : Int} {a6 : Int} {a7 : Int} {a8 : Int} {a9 : Int} {a10 : Int} {a11 : Int} {a12 : Int} {a13 : Int} {a14 : Int} {a15 : List (Slot)} {a16 : List (Port)} {a17 : Int} {a18 : Int} {a19 : Int} {a20 : Int} {a21 : Int} {a22 : Int} {a23 : Int} : Expl (⟨⟨a1, a2, a3, a4, a5, a6, a7, a8, a9, a10, a11, a12, a13⟩, a14, a15, a16, a17, a18, a19, a20, a21, a22, a23⟩ : View) [.sl none a1.length (enL a1), .sl none a2.length (enL a2), .int .i64 a3, .int .i64 a4, .int .i64 a5, .int .i64 a6, .int .i64 a7, .int .i64 a8, .int .i64 a9, .int .i64 a10, .int .i64 a11, .int .i64 a12, .int .i64 a13, .int .i64 a14, .sl none a15.length (enL a15), .sl none a16.length (enL a16), .int .i64 a17, .int .i64 a18, .int .i64 a19, .int .i64 a20, .int .i64 a21, .int .i64 a22, .int .i64 a23] := ⟨rfl⟩
instance {a1 : List (Part)} {v1 : V} {a2 : List (Link)} {v2 : V} {a3 : Int} {a4 : Int} {a5 : Int} {a6 : Int} {a7 : Int} {a8 : Int} {a9 : Int} {a10 : Int} {a11 : Int} {a12 : Int} {a13 : Int} {a14 : Int} {a15 : List (Slot)} {v15 : V} {a16 : List (Port)} {v16 : V} {a17 : Int} {a18 : Int} {a19 : Int} {a20 : Int} {a21 : Int} {a22 : Int} {a23 : Int} {r : List V} {xs : List View} [h1 : SlL (Part) v1 a1] [h2 : SlL (Link) v2 a2] [h15 : SlL (Slot) v15 a15] [h16 : SlL (Port) v16 a16] [h : FoldL View r xs] : FoldL View (v1 :: v2 :: .int .i64 a3 :: .int .i64 a4 :: .int .i64 a5 :: .int .i64 a6 :: .int .i64 a7 :: .int .i64 a8 :: .int .i64 a9 :: .int .i64 a10 :: .int .i64 a11 :: .int .i64 a12 :: .int .i64 a13 :: .int .i64 a14 :: v15 :: v16 :: .int .i64 a17 :: .int .i64 a18 :: .int .i64 a19 :: .int .i64 a20 :: .int .i64 a21 :: .int .i64 a22 :: .int .i64 a23 :: r) (⟨⟨a1, a2, a3, a4, a5, a6, a7, a8, a9, a10, a11, a12, a13⟩, a14, a15, a16, a17, a18, a19, a20, a21, a22, a23⟩ :: xs) := ⟨by rw [bL, ← h.eq, h1.eq, h2.eq, h15.eq, h16.eq]; rfl⟩
end Go.Abs
namespace Go.Abs
class MaskI (m : Int) (p : outParam Int) : Prop where eq : ∀ a : Int, IntKind.i64.wrap (BitVec.ofInt 64 a &&& BitVec.ofInt 64 m).toNat = a % p
theorem rJ {m p : Int} (j : Nat) (hj : j ≤ 62) (hm : (((2 ^ j - 1 : Nat)) : Int) = m) (hp : ((2 ^ j : Nat) : Int) = p) : MaskI m p := ⟨fun a => by rw [← hm, ← hp]; exact aO1 a hj⟩
instance : MaskI 1 2 := rJ 1 (by decide) rfl rfl
instance : MaskI 3 4 := rJ 2 (by decide) rfl rfl
instance : MaskI 7 8 := rJ 3 (by decide) rfl rfl
instance : MaskI 15 16 := rJ 4 (by decide) rfl rfl
instance : MaskI 4095 4096 := rJ 12 (by decide) rfl rfl
instance : MaskI 65535 65536 := rJ 16 (by decide) rfl rfl
instance : MaskI 1073741823 1073741824 := rJ 30 (by decide) rfl rfl
instance : MaskI 274877906943 274877906944 := rJ 38 (by decide) rfl rfl
instance : MaskI 549755813887 549755813888 := rJ 39 (by decide) rfl rfl
section
variable {s : Option Nat} {H : aB}
theorem aQ0 {a m p : Int} (hm : MaskI m p := by exact inferInstance) : apply s (.bin .and) [.int .i64 a, .int .i64 m] H = some (.int .i64 (a % p), H) := by
 rw [aMw]
 show some (V.int .i64 (IntKind.i64.wrap (BitVec.ofInt 64 a &&& BitVec.ofInt 64 m).toNat), H) = _
 rw [hm.eq]
theorem aC9 : ∀ n : Nat, (kJ [.int .i64 0] n).map V.dis1 = enL (List.replicate n (0 : Int))
 | 0 => by rw [List.replicate_zero, aL]; rfl
 | n + 1 => by
   rw [List.replicate_succ, bL, ← aC9 n]; rfl
theorem aY0 {bytes n : Nat} {j k : IntKind} (h : bytes * n ≤ 140737488355328 := by exact j7) (hn : (n : Int) < 9223372036854775808 := by omega) : apply s (.mkv 1 bytes [.int .i64 0]) [.int j (n : Int), .int k (n : Int)] H = some (.sl (some 1) (List.replicate n (0 : Int)).length (enL (List.replicate n (0 : Int))), H) := by
 show (aDv 1 bytes [.int .i64 0] [.int j (n : Int), .int k (n : Int)]).map (·, H) = _
 simp only [aDv]
 rw [if_pos ⟨by omega, trivial, by omega, hn⟩, Int.toNat_natCast, aC9, List.length_replicate]; rfl
theorem aRk {k : IntKind} {n : Int} : apply s (.un .xor) [.int k n] H = some (.int k (k.wrap (BitVec.ofInt k.bits (if k.signed then -1 else k.max) ^^^ BitVec.ofInt k.bits n).toNat), H) := rfl
end
theorem aU0 {e : aQ} : hU [] e = true := rfl
theorem aQ1 {t : Nat} {r : List Nat} {e : aQ} {v : V} (hg : g e t = some v) (hv : v.rb 0 = true) (h : hU r e = true) : hU (t :: r) e = true := by
 rw [A7] at hg
 simp only [hU, hg, hv, h, Bool.and_self]
theorem aU1 {β : Type} {T : Tab} {s : Option Nat} {H : aB} {keep : List Nat} {t : Nat} {free : List Nat} {κ : oY → Option β} {e e1 : aQ} {Y : Option β → Prop} (k : Ev (κ (.nrm, e1, H)) Y) (h : hU (t :: free) e = true := by (repeat (first | exact aU0 | (apply aQ1; exact rfl; (focus (exact tRB))))); (first | done | fail)) (h1 : aZ keep e = e1 := by exact aRu) : Ev (RR T s [] e H (dE keep [] (t :: free) [] κ)) Y :=
 aIl (by rw [h]; rfl) h1 k
theorem pL {β : Type} {T : Tab} {s : Option Nat} {c : C} {e : aQ} {H : aB} {o : oY} {κ : oY → Option β} {Y : Option β → Prop} (n : Nat) (h : d7 (s0 T n) s n c e H = some o) (k : Ev (κ o) Y) : Ev (R T s c e H κ) Y := by
 unfold R
 rw [eO.2 ⟨n, h⟩]; exact k
theorem sh1 {k : IntKind} (h : 1 ≤ k.bits := by decide) : (2 : Int) ^ (min (Int.toNat 1) k.bits) = 2 := by rw [show (Int.toNat 1) = 1 from rfl, Nat.min_eq_left h]; rfl
theorem sh2 {k : IntKind} (h : 2 ≤ k.bits := by decide) : (2 : Int) ^ (min (Int.toNat 2) k.bits) = 4 := by rw [show (Int.toNat 2) = 2 from rfl, Nat.min_eq_left h]; rfl
theorem sh4 {k : IntKind} (h : 4 ≤ k.bits := by decide) : (2 : Int) ^ (min (Int.toNat 4) k.bits) = 16 := by rw [show (Int.toNat 4) = 4 from rfl, Nat.min_eq_left h]; rfl
theorem sh7 {k : IntKind} (h : 7 ≤ k.bits := by decide) : (2 : Int) ^ (min (Int.toNat 7) k.bits) = 128 := by rw [show (Int.toNat 7) = 7 from rfl, Nat.min_eq_left h]; rfl
theorem sh8 {k : IntKind} (h : 8 ≤ k.bits := by decide) : (2 : Int) ^ (min (Int.toNat 8) k.bits) = 256 := by rw [show (Int.toNat 8) = 8 from rfl, Nat.min_eq_left h]; rfl
theorem aY1 {k : IntKind} (h : 10 ≤ k.bits := by decide) : (2 : Int) ^ (min (Int.toNat 10) k.bits) = 1024 := by rw [show (Int.toNat 10) = 10 from rfl, Nat.min_eq_left h]; rfl
theorem aY2 {k : IntKind} (h : 11 ≤ k.bits := by decide) : (2 : Int) ^ (min (Int.toNat 11) k.bits) = 2048 := by rw [show (Int.toNat 11) = 11 from rfl, Nat.min_eq_left h]; rfl
theorem aY3 {k : IntKind} (h : 13 ≤ k.bits := by decide) : (2 : Int) ^ (min (Int.toNat 13) k.bits) = 8192 := by rw [show (Int.toNat 13) = 13 from rfl, Nat.min_eq_left h]; rfl
theorem aY4 {k : IntKind} (h : 16 ≤ k.bits := by decide) : (2 : Int) ^ (min (Int.toNat 16) k.bits) = 65536 := by rw [show (Int.toNat 16) = 16 from rfl, Nat.min_eq_left h]; rfl
theorem aY5 {k : IntKind} (h : 24 ≤ k.bits := by decide) : (2 : Int) ^ (min (Int.toNat 24) k.bits) = 16777216 := by rw [show (Int.toNat 24) = 24 from rfl, Nat.min_eq_left h]; rfl
theorem aY6 {k : IntKind} (h : 31 ≤ k.bits := by decide) : (2 : Int) ^ (min (Int.toNat 31) k.bits) = 2147483648 := by rw [show (Int.toNat 31) = 31 from rfl, Nat.min_eq_left h]; rfl
end Go.Abs
namespace Go.Abs
theorem aF {p q : Prop} (k : q) (h : q → p := by intro k; first | (show zz; first | (show zo; exact tF k) | (show zf; first | exact bBn k | exact aZy k) | (show zm; exact bA0 k) | (show zr; first | exact aU1 k | exact aRv k) | (show zO; exact bA1 k) | (show ze; exact bA3 k) | (show zt; first | exact bBo k | exact aZy k) | (show zp; exact bBp k) | (show zF; first | exact y_hF k | exact y_sk0 k) | (show zT; first | exact y_hT k | exact y_sk0 k)) | (show gA; first | (show gX; exact aVk k) | (show gD; first | exact aZu k | exact aZv k) | (show gE; first | exact gc_tE k | exact gc_fE k) | (show gN; first | exact gc_tN k | exact gc_fN k)) | (show zR; first | (show zs; exact aYf k) | (show zg; exact aYc rfl k) | (show zd; exact aZz k) | exact aYh k | exact aYg k | exact aYi k | exact aUf k) | exact aCf k | exact aKa k | exact aH6 k | exact aKb k | exact aKc k | exact aKd k | exact k_blk_miss (by decide) k | exact aN6 k | exact aKe k | (show zk; exact bA4 k) | (show zj; exact n7 k)) : p := h k
theorem aG {p q : Prop} (k : q) (h : q → p := by intro k; show gA; first | exact aZw k | exact aZx k | exact gc_tS k | exact gc_fS k) : p := h k
theorem sG {p a b q r : Prop} (k : a → q) (l : b → r) (h : (a → q) → (b → r) → p := by intro k l; (show gA; first | exact bBm k l | exact gc_E k l | exact gc_N k l)) : p := h k l
theorem yc {T : Tab} {s : Option Nat} {f : FuncId} {vs : List V} {H H1 : aB} {v : V} {p q : Prop} (k : q) (h : Call T s f vs H = some (v, H1) → q → p := by intro h k; first | (show zc; exact cI k (ha := h)) | (show zC; exact y_call0 k (ha := h)) | (show zn; exact eZ k (ha := h))) (ha : Call T s f vs H = some (v, H1) := by assumption) : p := h ha k
theorem bE {T : Tab} {s : Option Nat} {H : aB} {f : FuncId} {args : List V} {cf : CF} {Y : Option (V × aB) → Prop} (hp : T.prim f = none) (hc : T.code f = some cf) (ha : args.length = cf.np) (hm : cf.mode = .P)
 (h : Ev (R T (some 0) cf.body (aA 0 args) [] (mP .P cf.res s H [])) Y) (hb : V.rbL 0 args = true := by exact tRB) : Ev (Call T s f args H) Y := bBq (H0 := []) hp hc ha hm hb h
end Go.Abs
namespace Go.Abs
open Go.Proofs.YtpcnjabfiahhhaaGreatDoor
attribute [local irreducible] enL R RR dF cZ lV dE dG mP apply dB eI aX aZ cO aW fB aP aN cK bN gL cA V.rb V.rbL
abbrev Tm (x : Int) : Prop := -1099511627776 ≤ x ∧ x ≤ 1099511627776
theorem K2 {s : Option Nat} {H : aB} {x : Int} : Call tab s oU [.int .i64 x] H = some (.bool (decide (Tm x)), H) := by
 ((first | refine aC ?_ | skip); refine bE (cf := wV) rfl rfl rfl rfl ?_; unfold wV; dsimp only [aA, Nat.reduceAdd, Nat.zero_add])
 repeat' (first | refine aF ?_ | refine yc ?_ | refine sG (fun _ => ?_) fun _ => ?_ | refine aG ?_ | refine sH (fun _ => ?_) fun _ => ?_ | fail)
 all_goals first | (with_reducible rfl) | (simp only [Option.some.injEq, Prod.mk.injEq, V.bool.injEq, V.tup.injEq, V.int.injEq, List.cons.injEq, and_true, true_and]; first | done | (rw [Bool.eq_iff_iff]; simp only [decide_eq_true_eq, Bool.false_eq_true, Bool.true_eq_false, false_iff, iff_false, true_iff, iff_true, Bool.not_eq_true, decide_eq_false_iff_not, Bool.and_eq_true, Bool.or_eq_true]; omega) | omega)
theorem gF {s : Option Nat} {H : aB} {x : Int} : Call tab s lC [.int .i64 x] H = some (.bool (decide (Tm x)), H) := by
 ((first | refine aC ?_ | skip); refine bE (cf := zN) rfl rfl rfl rfl ?_; unfold zN; dsimp only [aA, Nat.reduceAdd, Nat.zero_add])
 repeat' (first | refine aF ?_ | refine yc ?_ | refine sG (fun _ => ?_) fun _ => ?_ | refine aG ?_ | refine sH (fun _ => ?_) fun _ => ?_ | fail)
 all_goals first | (with_reducible rfl) | (simp only [Option.some.injEq, Prod.mk.injEq, V.bool.injEq, V.tup.injEq, V.int.injEq, List.cons.injEq, and_true, true_and]; first | done | (rw [Bool.eq_iff_iff]; simp only [decide_eq_true_eq, Bool.false_eq_true, Bool.true_eq_false, false_iff, iff_false, true_iff, iff_true, Bool.not_eq_true, decide_eq_false_iff_not, Bool.and_eq_true, Bool.or_eq_true]; omega) | omega)
def flo (a b : Int) : Int := if 1 ≤ b then a / b else 0
theorem aJ1 {s : Option Nat} {H : aB} {a b : Int} (ha : I64 a) : Call tab s r6 [.int .i64 a, .int .i64 b] H = some (.tup [.int .i64 (flo a b), .bool (decide (1 ≤ b))], H) := by
 unfold I64 at ha
 unfold flo
 ((first | refine aC ?_ | skip); refine bE (cf := uQ) rfl rfl rfl rfl ?_; unfold uQ; dsimp only [aA, Nat.reduceAdd, Nat.zero_add])
 by_cases hb : 1 ≤ b
 ·rw [if_pos hb, decide_eq_true hb]
  have e1 := @aE5 a b hb
  have e2 := @aE4 a b hb
  have e3 := m8 (a := a) hb
  have hw : IntKind.i64.wrap (a.tdiv b) = a.tdiv b := IntWalk.i64_in _ (by have := P6 (a := a) hb; omega)
  have hx : a.tmod b < 0 → IntKind.i64.wrap (a.tdiv b - 1) = a / b := fun k => by rw [e1 k]; exact IntWalk.i64_in _ (by omega)
  by_cases k : a.tmod b < 0
  ·have hx := hx k
   repeat' (first | refine aF ?_ | refine yc ?_ | refine sG (fun _ => ?_) fun _ => ?_ | refine aG ?_ | refine sH (fun _ => ?_) fun _ => ?_ | fail)
   rfl
  ·have e2 := e2 k
   repeat' (first | refine aF ?_ | refine yc ?_ | refine sG (fun _ => ?_) fun _ => ?_ | refine aG ?_ | refine sH (fun _ => ?_) fun _ => ?_ | fail)
   rw [e2]
 ·rw [if_neg hb, decide_eq_false hb]
  repeat' (first | refine aF ?_ | refine yc ?_ | refine sG (fun _ => ?_) fun _ => ?_ | refine aG ?_ | refine sH (fun _ => ?_) fun _ => ?_ | fail)
  rfl
theorem aO3 {s : Option Nat} {H : aB} {a b : Int} (ha : I64 a) : Call tab s E1 [.int .i64 a, .int .i64 b] H = some (.tup [.int .i64 (flo a b), .bool (decide (1 ≤ b))], H) := by
 unfold I64 at ha
 unfold flo
 ((first | refine aC ?_ | skip); refine bE (cf := yG) rfl rfl rfl rfl ?_; unfold yG; dsimp only [aA, Nat.reduceAdd, Nat.zero_add])
 by_cases hb : 1 ≤ b
 ·rw [if_pos hb, decide_eq_true hb]
  have e1 := @aE5 a b hb
  have e2 := @aE4 a b hb
  have e3 := m8 (a := a) hb
  have hw : IntKind.i64.wrap (a.tdiv b) = a.tdiv b := IntWalk.i64_in _ (by have := P6 (a := a) hb; omega)
  have hx : a.tmod b < 0 → IntKind.i64.wrap (a.tdiv b - 1) = a / b := fun k => by rw [e1 k]; exact IntWalk.i64_in _ (by omega)
  by_cases k : a.tmod b < 0
  ·have hx := hx k
   repeat' (first | refine aF ?_ | refine yc ?_ | refine sG (fun _ => ?_) fun _ => ?_ | refine aG ?_ | refine sH (fun _ => ?_) fun _ => ?_ | fail)
   rfl
  ·have e2 := e2 k
   repeat' (first | refine aF ?_ | refine yc ?_ | refine sG (fun _ => ?_) fun _ => ?_ | refine aG ?_ | refine sH (fun _ => ?_) fun _ => ?_ | fail)
   rw [e2]
 ·rw [if_neg hb, decide_eq_false hb]
  repeat' (first | refine aF ?_ | refine yc ?_ | refine sG (fun _ => ?_) fun _ => ?_ | refine aG ?_ | refine sH (fun _ => ?_) fun _ => ?_ | fail)
  rfl
def P0 (a b : Int) : Int := if 1 ≤ b then -((-a) / b) else 0
theorem aUy {s : Option Nat} {H : aB} {a b : Int} (ha : -9223372036854775807 ≤ a ∧ a ≤ 9223372036854775807) : Call tab s D9 [.int .i64 a, .int .i64 b] H = some (.tup [.int .i64 (P0 a b), .bool (decide (1 ≤ b))], H) := by
 unfold P0
 ((first | refine aC ?_ | skip); refine bE (cf := yF) rfl rfl rfl rfl ?_; unfold yF; dsimp only [aA, Nat.reduceAdd, Nat.zero_add])
 by_cases hb : 1 ≤ b
 ·rw [if_pos hb, decide_eq_true hb]
  have e1 := @aIy a b hb
  have e2 := @aGc a b hb
  have e3 := m8 (a := -a) hb
  have hw : IntKind.i64.wrap (a.tdiv b) = a.tdiv b := IntWalk.i64_in _ (by have := P6 (a := a) hb; omega)
  have hx : 0 < a.tmod b → IntKind.i64.wrap (a.tdiv b + 1) = -((-a) / b) := fun k => by rw [e1 k]; exact IntWalk.i64_in _ (by omega)
  by_cases k : 0 < a.tmod b
  ·have hx := hx k
   repeat' (first | refine aF ?_ | refine yc ?_ | refine sG (fun _ => ?_) fun _ => ?_ | refine aG ?_ | refine sH (fun _ => ?_) fun _ => ?_ | fail)
   rfl
  ·have e2 := e2 k
   repeat' (first | refine aF ?_ | refine yc ?_ | refine sG (fun _ => ?_) fun _ => ?_ | refine aG ?_ | refine sH (fun _ => ?_) fun _ => ?_ | fail)
   rw [e2]
 ·rw [if_neg hb, decide_eq_false hb]
  repeat' (first | refine aF ?_ | refine yc ?_ | refine sG (fun _ => ?_) fun _ => ?_ | refine aG ?_ | refine sH (fun _ => ?_) fun _ => ?_ | fail)
  rfl
theorem aQw {s : Option Nat} {H : aB} {a b : Int} (ha : -9223372036854775807 ≤ a ∧ a ≤ 9223372036854775807) : Call tab s N5 [.int .i64 a, .int .i64 b] H = some (.tup [.int .i64 (P0 a b), .bool (decide (1 ≤ b))], H) := by
 unfold P0
 ((first | refine aC ?_ | skip); refine bE (cf := i7) rfl rfl rfl rfl ?_; unfold i7; dsimp only [aA, Nat.reduceAdd, Nat.zero_add])
 by_cases hb : 1 ≤ b
 ·rw [if_pos hb, decide_eq_true hb]
  have e1 := @aIy a b hb
  have e2 := @aGc a b hb
  have e3 := m8 (a := -a) hb
  have hw : IntKind.i64.wrap (a.tdiv b) = a.tdiv b := IntWalk.i64_in _ (by have := P6 (a := a) hb; omega)
  have hx : 0 < a.tmod b → IntKind.i64.wrap (a.tdiv b + 1) = -((-a) / b) := fun k => by rw [e1 k]; exact IntWalk.i64_in _ (by omega)
  by_cases k : 0 < a.tmod b
  ·have hx := hx k
   repeat' (first | refine aF ?_ | refine yc ?_ | refine sG (fun _ => ?_) fun _ => ?_ | refine aG ?_ | refine sH (fun _ => ?_) fun _ => ?_ | fail)
   rfl
  ·have e2 := e2 k
   repeat' (first | refine aF ?_ | refine yc ?_ | refine sG (fun _ => ?_) fun _ => ?_ | refine aG ?_ | refine sH (fun _ => ?_) fun _ => ?_ | fail)
   rw [e2]
 ·rw [if_neg hb, decide_eq_false hb]
  repeat' (first | refine aF ?_ | refine yc ?_ | refine sG (fun _ => ?_) fun _ => ?_ | refine aG ?_ | refine sH (fun _ => ?_) fun _ => ?_ | fail)
  rfl
abbrev aKn (x p : Int) : Prop := Tm x ∧ -1000000 ≤ p ∧ p ≤ 1000000
def scl (x p : Int) : Int := if aKn x p then x * p / 1000000 else 0
theorem aO4 {x p : Int} (h : aKn x p) : -1099511627776000000 ≤ x * p ∧ x * p ≤ 1099511627776000000 := by
 obtain ⟨⟨h1, h2⟩, h3, h4⟩ := h
 have a : x.natAbs ≤ 1099511627776 := by omega
 have b : p.natAbs ≤ 1000000 := by omega
 have c : (x * p).natAbs ≤ 1099511627776 * 1000000 := by rw [Int.natAbs_mul]; exact Nat.mul_le_mul a b
 omega
theorem aQx {s : Option Nat} {H : aB} {x p : Int} : Call tab s p9 [.int .i64 x, .int .i64 p] H = some (.tup [.int .i64 (scl x p), .bool (decide (aKn x p))], H) := by
 ((first | refine aC ?_ | skip); refine bE (cf := uJ) rfl rfl rfl rfl ?_; unfold uJ; dsimp only [aA, Nat.reduceAdd, Nat.zero_add])
 unfold scl
 by_cases h : aKn x p
 ·have hm := aO4 h
  have hw : IntKind.i64.wrap (x * p) = x * p := IntWalk.i64_in _ (by omega)
  have hf := @aJ1 (b := 1000000)
  have h1 : decide (Tm x) = true := decide_eq_true h.1
  have h2 := h.2
  rw [if_pos h, decide_eq_true h]
  repeat' (first | refine aF ?_ | refine yc ?_ (ha := by first | exact K2 | exact aJ1 (by unfold I64; omega) | assumption) | refine sG (fun _ => ?_) fun _ => ?_ | refine aG ?_ | refine sH (fun _ => ?_) fun _ => ?_ | fail)
  rfl
 ·rw [if_neg h, decide_eq_false h]
  by_cases h1 : Tm x
  ·have h2 : ¬ (-1000000 ≤ p ∧ p ≤ 1000000) := fun k => h ⟨h1, k⟩
   have h1' : decide (Tm x) = true := decide_eq_true h1
   repeat' (first | refine aF ?_ | refine yc ?_ (ha := by first | exact K2 | assumption) | refine sG (fun _ => ?_) fun _ => ?_ | refine aG ?_ | refine sH (fun _ => ?_) fun _ => ?_ | fail)
   all_goals first | rfl | (exfalso; omega)
  ·have h1' : decide (Tm x) = false := decide_eq_false h1
   repeat' (first | refine aF ?_ | refine yc ?_ (ha := by first | exact K2 | assumption) | refine sG (fun _ => ?_) fun _ => ?_ | refine aG ?_ | refine sH (fun _ => ?_) fun _ => ?_ | fail)
   all_goals rfl
theorem aO5 {s : Option Nat} {H : aB} {x p : Int} : Call tab s D6 [.int .i64 x, .int .i64 p] H = some (.tup [.int .i64 (scl x p), .bool (decide (aKn x p))], H) := by
 ((first | refine aC ?_ | skip); refine bE (cf := wX) rfl rfl rfl rfl ?_; unfold wX; dsimp only [aA, Nat.reduceAdd, Nat.zero_add])
 unfold scl
 by_cases h : aKn x p
 ·have hm := aO4 h
  have hw : IntKind.i64.wrap (x * p) = x * p := IntWalk.i64_in _ (by omega)
  have h1 : decide (Tm x) = true := decide_eq_true h.1
  have h2 := h.2
  rw [if_pos h, decide_eq_true h]
  repeat' (first | refine aF ?_ | refine yc ?_ (ha := by first | exact gF | exact aO3 (by unfold I64; omega) | assumption) | refine sG (fun _ => ?_) fun _ => ?_ | refine aG ?_ | refine sH (fun _ => ?_) fun _ => ?_ | fail)
  rfl
 ·rw [if_neg h, decide_eq_false h]
  by_cases h1 : Tm x
  ·have h2 : ¬ (-1000000 ≤ p ∧ p ≤ 1000000) := fun k => h ⟨h1, k⟩
   have h1' : decide (Tm x) = true := decide_eq_true h1
   repeat' (first | refine aF ?_ | refine yc ?_ (ha := by first | exact gF | assumption) | refine sG (fun _ => ?_) fun _ => ?_ | refine aG ?_ | refine sH (fun _ => ?_) fun _ => ?_ | fail)
   all_goals first | rfl | (exfalso; omega)
  ·have h1' : decide (Tm x) = false := decide_eq_false h1
   repeat' (first | refine aF ?_ | refine yc ?_ (ha := by first | exact gF | assumption) | refine sG (fun _ => ?_) fun _ => ?_ | refine aG ?_ | refine sH (fun _ => ?_) fun _ => ?_ | fail)
   all_goals rfl
def real (x p : Int) : Int := IntKind.i64.wrap (x - scl x p)
theorem aHp {s : Option Nat} {H : aB} {x p : Int} : Call tab s D1 [.int .i64 x, .int .i64 p] H = some (.int .i64 (real x p), H) := by
 ((first | refine aC ?_ | skip); refine bE (cf := wS) rfl rfl rfl rfl ?_; unfold wS; dsimp only [aA, Nat.reduceAdd, Nat.zero_add])
 repeat' (first | refine aF ?_ | refine yc ?_ (ha := by first | exact aQx | assumption) | refine sG (fun _ => ?_) fun _ => ?_ | refine aG ?_ | refine sH (fun _ => ?_) fun _ => ?_ | fail)
 rfl
theorem aE6 {s : Option Nat} {H : aB} {x p : Int} : Call tab s M8 [.int .i64 x, .int .i64 p] H = some (.int .i64 (real x p), H) := by
 ((first | refine aC ?_ | skip); refine bE (cf := zS) rfl rfl rfl rfl ?_; unfold zS; dsimp only [aA, Nat.reduceAdd, Nat.zero_add])
 repeat' (first | refine aF ?_ | refine yc ?_ (ha := by first | exact aO5 | assumption) | refine sG (fun _ => ?_) fun _ => ?_ | refine aG ?_ | refine sH (fun _ => ?_) fun _ => ?_ | fail)
 rfl
end Go.Abs
namespace Go.Abs
open Go.Proofs.YtpcnjabfiahhhaaGreatDoor
attribute [local irreducible] enL R RR dF cZ lV dE dG mP apply dB eI aX aZ cO aW fB aP aN cK bN gL cA V.rb V.rbL
theorem aE7 (r : BitVec 32) : IntKind.u32.wrap (r.toNat : Int) = r.toNat := IntWalk.u32_in _ (by have := r.isLt; omega)
theorem aUz (q : BitVec 32) : IntKind.u32.wrap (BitVec.ofInt IntKind.u32.bits (q.toNat : Int) &&& BitVec.ofInt IntKind.u32.bits 2147483648).toNat = if q.msb then 2147483648 else 0 := by
 show IntKind.u32.wrap (BitVec.ofInt 32 (q.toNat : Int) &&& 2147483648#32).toNat = _
 rw [wD, aNy]; split <;> rfl
theorem aO9 (q : BitVec 32) : IntKind.u32.wrap ((q.toNat : Int) * 2) = ((q <<< 1).toNat : Int) := by
 rw [IntKind.wrap_u32, aNz]; omega
theorem aJ4 (q : BitVec 32) : IntKind.u32.wrap (BitVec.ofInt IntKind.u32.bits (q.toNat : Int) ^^^ BitVec.ofInt IntKind.u32.bits 79764919).toNat = ((q ^^^ 0x04c11db7#32).toNat : Int) := by
 show IntKind.u32.wrap (BitVec.ofInt 32 (q.toNat : Int) ^^^ 0x04c11db7#32).toNat = _
 rw [wD, aE7]
theorem aV0 (q r : BitVec 32) : IntKind.u32.wrap (BitVec.ofInt IntKind.u32.bits (q.toNat : Int) ^^^ BitVec.ofInt IntKind.u32.bits (r.toNat : Int)).toNat = ((q ^^^ r).toNat : Int) := by
 show IntKind.u32.wrap (BitVec.ofInt 32 (q.toNat : Int) ^^^ BitVec.ofInt 32 (r.toNat : Int)).toNat = _
 rw [wD, wD, aE7]
theorem aV1 (q : BitVec 32) : IntKind.u32.wrap (BitVec.ofInt IntKind.u32.bits (if IntKind.u32.signed then -1 else IntKind.u32.max) ^^^ BitVec.ofInt IntKind.u32.bits (q.toNat : Int)).toNat = ((~~~ q).toNat : Int) := by
 show IntKind.u32.wrap (4294967295#32 ^^^ BitVec.ofInt 32 (q.toNat : Int)).toNat = _
 rw [wD, show (4294967295#32) = BitVec.allOnes 32 from rfl, BitVec.xor_comm, BitVec.xor_allOnes, aE7]
theorem aOa {q : BitVec 32} (h : q.msb = true) : yD q = (q <<< 1) ^^^ 0x04c11db7#32 := by unfold yD; rw [if_pos h]
theorem aOb {q : BitVec 32} (h : q.msb = false) : yD q = q <<< 1 := by unfold yD; rw [if_neg (by rw [h]; decide)]
set_option maxHeartbeats 1000000 in
theorem aV2 {s : Option Nat} {H : aB} {r : BitVec 32} : Call tab s aA8 [.int .u32 (r.toNat : Int)] H = some (.int .u32 ((aAa 8 r).toNat : Int), H) := by
 ((first | refine aC ?_ | skip); refine bE (cf := y7) rfl rfl rfl rfl ?_; unfold y7; dsimp only [aA, Nat.reduceAdd, Nat.zero_add])
 repeat' (first | refine aF ?_ | refine yc ?_ | refine sG (fun _ => ?_) fun _ => ?_ | refine aG ?_ | refine sH (fun _ => ?_) fun _ => ?_ | fail)
 refine oK 8 (fun i (_ : Unit) => [(0, .int .u32 ((aAa i r).toNat : Int)), (3, .int .i64 i)]) (fun _ _ => []) (fun _ _ => True) ?_ ?_ () trivial
 ·intro i _ hi _ ih
  rw [aCr] at ih
  generalize aAa i r = q at *
  have h1 := aUz q
  have h2 := aO9 q
  have hw : IntKind.i64.wrap ((i : Int) + 1) = ((i + 1 : Nat) : Int) := IntWalk.i64_in _ (by omega)
  refine aJ (by dsimp only [eT, lk, Nat.reduceBEq, cond_true, cond_false, Option.getD_some, Option.getD_none]; first | done | exact rfl) ?_; refine aE ?_
  unfold xH
  cases hm : q.msb
  ·rw [hm, if_neg (by decide)] at h1
   repeat' (first | refine aF ?_ | refine yc ?_ | refine sG (fun _ => ?_) fun _ => ?_ | refine aG ?_ | refine sH (fun _ => ?_) fun _ => ?_ | fail)
   refine cV ?_
   rw [aOb hm] at ih
   exact ih () trivial
  ·rw [hm, if_pos rfl] at h1
   have h3 := aJ4 (q <<< 1)
   have h4 : ¬ IntKind.u32.wrap (BitVec.ofInt IntKind.u32.bits (q.toNat : Int) &&& BitVec.ofInt IntKind.u32.bits 2147483648).toNat = 0 := by rw [h1]; decide
   repeat' (first | refine aF ?_ | refine yc ?_ | refine sG (fun _ => ?_) fun _ => ?_ | refine aG ?_ | refine sH (fun _ => ?_) fun _ => ?_ | fail)
   refine cV ?_
   rw [aOa hm, ← h3] at ih
   exact ih () trivial
 ·intro _ _
  refine aJ (by dsimp only [eT, lk, Nat.reduceBEq, cond_true, cond_false, Option.getD_some, Option.getD_none]; first | done | exact rfl) ?_; refine aE ?_
  unfold xH
  repeat' (first | refine aF ?_ | refine yc ?_ | refine sG (fun _ => ?_) fun _ => ?_ | refine aG ?_ | refine sH (fun _ => ?_) fun _ => ?_ | fail)
  rfl
set_option maxHeartbeats 1000000 in
theorem aR0 {s : Option Nat} {H : aB} {r : BitVec 32} : Call tab s E5 [.int .u32 (r.toNat : Int)] H = some (.int .u32 ((aAa 8 r).toNat : Int), H) := by
 ((first | refine aC ?_ | skip); refine bE (cf := yH) rfl rfl rfl rfl ?_; unfold yH; dsimp only [aA, Nat.reduceAdd, Nat.zero_add])
 repeat' (first | refine aF ?_ | refine yc ?_ | refine sG (fun _ => ?_) fun _ => ?_ | refine aG ?_ | refine sH (fun _ => ?_) fun _ => ?_ | fail)
 refine oK 8 (fun i (_ : Unit) => [(0, .int .u32 ((aAa i r).toNat : Int)), (3, .int .i64 i)]) (fun _ _ => []) (fun _ _ => True) ?_ ?_ () trivial
 ·intro i _ hi _ ih
  rw [aCr] at ih
  generalize aAa i r = q at *
  have h2 := aO9 q
  have h1 := aYy q
  have hl := q.isLt
  have hw : IntKind.i64.wrap ((i : Int) + 1) = ((i + 1 : Nat) : Int) := IntWalk.i64_in _ (by omega)
  refine aJ (by dsimp only [eT, lk, Nat.reduceBEq, cond_true, cond_false, Option.getD_some, Option.getD_none]; first | done | exact rfl) ?_; refine aE ?_
  unfold sZ
  cases hm : q.msb
  ·rw [hm, if_neg (by decide)] at h1
   repeat' (first | refine aF ?_ | refine yc ?_ | refine sG (fun _ => ?_) fun _ => ?_ | refine aG ?_ | refine sH (fun _ => ?_) fun _ => ?_ | fail)
   refine cV ?_
   rw [aOb hm] at ih
   exact ih () trivial
  ·rw [hm, if_pos rfl] at h1
   have h3 := aJ4 (q <<< 1)
   repeat' (first | refine aF ?_ | refine yc ?_ | refine sG (fun _ => ?_) fun _ => ?_ | refine aG ?_ | refine sH (fun _ => ?_) fun _ => ?_ | fail)
   refine cV ?_
   rw [aOa hm, ← h3] at ih
   exact ih () trivial
 ·intro _ _
  refine aJ (by dsimp only [eT, lk, Nat.reduceBEq, cond_true, cond_false, Option.getD_some, Option.getD_none]; first | done | exact rfl) ?_; refine aE ?_
  unfold sZ
  repeat' (first | refine aF ?_ | refine yc ?_ | refine sG (fun _ => ?_) fun _ => ?_ | refine aG ?_ | refine sH (fun _ => ?_) fun _ => ?_ | fail)
  rfl
end Go.Abs
