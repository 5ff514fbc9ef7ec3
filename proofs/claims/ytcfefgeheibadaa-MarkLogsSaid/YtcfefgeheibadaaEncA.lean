/-
  Data as the machine has it: bytes, messages, lists of them.
-/
import Derived.Test.YtcfefgeheibadaaAbsE5
import Derived.Test.YtcfefgeheibadaaAbsR1
import Derived.IntWalk
namespace Go.Abs

def bV (b : List UInt8) : List V := b.map fun c => .int .u8 (c.toNat : Int)
@[simp] theorem bV_len (b : List UInt8) : (bV b).length = b.length := by simp [bV]
theorem bV_rb (m : Nat) : ∀ b : List UInt8, V.rbL m (bV b) = true
  | [] => rb_nil
  | c :: b => rb_cons rb_int (bV_rb m b)
theorem bV_dis (b : List UInt8) : (bV b).map V.dis1 = bV b := by simp [bV, V.dis1]

/-- Lists of things that are of so many cells each. -/
theorem fm_len {α : Type} {f : α → List V} {z : Nat} (hf : ∀ x, (f x).length = z) : ∀ l : List α, (l.flatMap f).length = l.length * z
  | [] => by simp
  | x :: l => by rw [List.flatMap_cons, List.length_append, hf, fm_len hf l, List.length_cons, Nat.succ_mul, Nat.add_comm]
theorem fm_drop {α : Type} {f : α → List V} {z : Nat} (hf : ∀ x, (f x).length = z) : ∀ (l : List α) (i : Nat), (l.flatMap f).drop (i * z) = (l.drop i).flatMap f
  | l, 0 => by simp
  | [], i + 1 => by simp
  | x :: l, i + 1 => by
    rw [List.flatMap_cons, Nat.succ_mul, Nat.add_comm, ← hf x, List.drop_length_add_append, hf x, fm_drop hf l i, List.drop_succ_cons]
theorem fm_piece {α : Type} {f : α → List V} {z : Nat} (hf : ∀ x, (f x).length = z) {l : List α} {i : Nat} {x : α} (h : l[i]? = some x) : ((l.flatMap f).drop (i * z)).take z = f x := by
  rw [fm_drop hf]
  obtain ⟨hl, hx⟩ := List.getElem?_eq_some_iff.1 h
  rw [List.drop_eq_getElem_cons hl, hx, List.flatMap_cons, ← hf x, List.take_left]
theorem fm_get {α : Type} {f : α → List V} {z : Nat} (hf : ∀ x, (f x).length = z) {l : List α} {i : Nat} {x : α} (h : l[i]? = some x) {j : Nat} (hj : j < z) : (l.flatMap f)[i * z + j]? = (f x)[j]? := by
  have := fm_piece hf h
  rw [← this, List.getElem?_take, if_pos hj, List.getElem?_drop]
theorem fm_get0 {α : Type} {f : α → List V} {z : Nat} (hf : ∀ x, (f x).length = z) {l : List α} {i : Nat} {x : α} (h : l[i]? = some x) (hz : 0 < z) : (l.flatMap f)[i * z]? = (f x)[0]? := fm_get hf h hz
theorem fm_rb {α : Type} {f : α → List V} {m : Nat} (hf : ∀ x, V.rbL m (f x) = true) : ∀ l : List α, V.rbL m (l.flatMap f) = true
  | [] => rb_nil
  | x :: l => by rw [List.flatMap_cons]; exact rb_app (hf x) (fm_rb hf l)
theorem fm_dis {α : Type} {f : α → List V} (hf : ∀ x, (f x).map V.dis1 = f x) (l : List α) : (l.flatMap f).map V.dis1 = l.flatMap f := by
  rw [List.map_flatMap]; congr 1; funext x; exact hf x

theorem take_step {α : Type} {f : α → List V} {l : List α} {i : Nat} {x : α} (h : l[i]? = some x) : (l.take i).flatMap f ++ f x = (l.take (i + 1)).flatMap f := by
  rw [List.take_add_one, h, List.flatMap_append]; simp
structure Item where
  frm : Int
  to : Int
  seq : Int
  body : List UInt8
def Item.enc (x : Item) : List V := [.int .i64 x.frm, .int .i64 x.to, .int .i64 x.seq, .sl none x.body.length (bV x.body)]
theorem Item.len (x : Item) : x.enc.length = 4 := rfl
theorem Item.rb (m : Nat) (x : Item) : V.rbL m x.enc = true := rb_cons rb_int (rb_cons rb_int (rb_cons rb_int (rb_cons (rb_sl (bV_rb m _)) rb_nil)))
def itemsV (l : List Item) : V := .sl none l.length (l.flatMap Item.enc)
structure Got where
  frm : Int
  seq : Int
  gap : Bool
  body : List UInt8
def Got.enc (x : Got) : List V := [.int .i64 x.frm, .int .i64 x.seq, .bool x.gap, .sl none x.body.length (bV x.body)]
theorem Got.len (x : Got) : x.enc.length = 4 := rfl
theorem Got.rb (m : Nat) (x : Got) : V.rbL m x.enc = true := rb_cons rb_int (rb_cons rb_int (rb_cons rb_bool (rb_cons (rb_sl (bV_rb m _)) rb_nil)))

/-! ### Arguments -/
def I64 (n : Int) : Prop := -9223372036854775808 ≤ n ∧ n ≤ 9223372036854775807
theorem wf_i64 {n : Int} (h : (Lit.int .i64 n).wf = true) : I64 n := by
  simpa [Lit.wf, I64, IntKind.min, IntKind.max, IntKind.signed, IntKind.bits] using h
theorem wf_u8 {n : Int} (h : (Lit.int .u8 n).wf = true) : 0 ≤ n ∧ n ≤ 255 := by
  simpa [Lit.wf, IntKind.min, IntKind.max, IntKind.signed, IntKind.bits] using h
theorem wrap_i64 {n : Int} (h : I64 n) : IntKind.i64.wrap n = n := by
  unfold I64 at h; rw [IntKind.wrap_i64]; omega
theorem ty_int {k : IntKind} {v : V} (h : TyA (.int k) v) : ∃ n, v = .int k n ∧ (Lit.int k n).wf = true := by
  obtain ⟨n, h1, h2⟩ := (show TyV (.int k) [v] from h)
  exact ⟨n, by simpa using h1, h2⟩
theorem ty_bytes1 : ∀ es : List (List V), (∀ x ∈ es, TyV (.int .u8) x) → ∃ b : List UInt8, es.flatten = bV b ∧ es.length = b.length
  | [], _ => ⟨[], rfl, rfl⟩
  | e :: es, h => by
    obtain ⟨b, h1, h2⟩ := ty_bytes1 es fun x hx => h x (List.mem_cons_of_mem _ hx)
    obtain ⟨n, rfl, hn⟩ := h e (List.mem_cons_self ..)
    have := wf_u8 hn
    refine ⟨UInt8.ofNat n.toNat :: b, ?_, by simp [h2]⟩
    rw [List.flatten_cons, h1]
    have : ((UInt8.ofNat n.toNat).toNat : Int) = n := by
      rw [UInt8.toNat_ofNat']; omega
    simp only [bV, List.map_cons, this, List.cons_append, List.nil_append]
theorem ty_bytes {cs : List V} (h : TyV (.sl (.int .u8)) cs) : ∃ b : List UInt8, cs = [.sl none b.length (bV b)] ∧ b.length ≤ maxLen := by
  obtain ⟨es, rfl, h1, h2⟩ := h
  obtain ⟨b, h3, h4⟩ := ty_bytes1 es h2
  exact ⟨b, by rw [h3, h4], by omega⟩
abbrev tyItem : Ty := .st [.int .i64, .int .i64, .int .i64, .sl (.int .u8)]
def Item.ok (x : Item) : Prop := I64 x.frm ∧ I64 x.to ∧ I64 x.seq ∧ x.body.length ≤ maxLen
theorem ty_item {cs : List V} (h : TyV tyItem cs) : ∃ x : Item, cs = x.enc ∧ x.ok := by
  simp only [tyItem, TyV, TyL] at h
  obtain ⟨_, _, rfl, ⟨a, rfl, ha⟩, _, _, rfl, ⟨b, rfl, hb⟩, _, _, rfl, ⟨c, rfl, hc⟩, d, _, rfl, hd, rfl⟩ := h
  obtain ⟨b', rfl, hl⟩ := ty_bytes (show TyV (.sl (.int .u8)) d from by simpa only [TyV] using hd)
  exact ⟨⟨a, b, c, b'⟩, rfl, wf_i64 ha, wf_i64 hb, wf_i64 hc, hl⟩
theorem ty_list {α : Type} {t : Ty} {f : α → List V} {ok : α → Prop} (hf : ∀ cs, TyV t cs → ∃ x, cs = f x ∧ ok x) : ∀ es : List (List V), (∀ x ∈ es, TyV t x) → ∃ l : List α, es.flatten = l.flatMap f ∧ es.length = l.length ∧ ∀ x ∈ l, ok x
  | [], _ => ⟨[], rfl, rfl, by simp⟩
  | e :: es, h => by
    obtain ⟨l, h1, h2, h3⟩ := ty_list hf es fun x hx => h x (List.mem_cons_of_mem _ hx)
    obtain ⟨x, rfl, hx⟩ := hf e (h e (List.mem_cons_self ..))
    exact ⟨x :: l, by rw [List.flatten_cons, List.flatMap_cons, h1], by simp [h2], by simpa using ⟨hx, h3⟩⟩
theorem ty_slice {α : Type} {t : Ty} {f : α → List V} {ok : α → Prop} (hf : ∀ cs, TyV t cs → ∃ x, cs = f x ∧ ok x) {v : V} (h : TyA (.sl t) v) : ∃ l : List α, v = .sl none l.length (l.flatMap f) ∧ l.length ≤ maxLen ∧ ∀ x ∈ l, ok x := by
  obtain ⟨es, h0, h1, h2⟩ := (show TyV (.sl t) [v] from h)
  obtain ⟨l, h3, h4, h5⟩ := ty_list hf es h2
  simp only [List.cons.injEq, and_true] at h0
  exact ⟨l, by rw [h0, h3, h4], by omega, h5⟩
end Go.Abs
