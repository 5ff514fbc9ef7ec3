/-
  Data of this program as the machine has it, and arguments that read as such.
-/
import Derived.Test.YtcfefgeheibadaaAbsE5
import Derived.Test.YtcfefgeheibadaaAbsR1
namespace Go.Abs

structure Item where
  frm : Int
  to : Int
  seq : Int
  body : List (UInt8)
def Item.enc (x : Item) : List V := [.int .i64 x.frm, .int .i64 x.to, .int .i64 x.seq, .sl none x.body.length (enL x.body)]
instance : Cel Item := ⟨4, Item.enc, fun _ => rfl, fun m x => rb_cons rb_int (rb_cons rb_int (rb_cons rb_int (rb_cons (rb_sl (enL_rb m _)) (rb_nil)))), fun _ => rfl⟩
instance (x : Item) : Expl x [.int .i64 x.frm, .int .i64 x.to, .int .i64 x.seq, .sl none x.body.length (enL x.body)] := ⟨rfl⟩
instance (priority := high) {a1 : Int} {a2 : Int} {a3 : Int} {a4 : List (UInt8)} : Expl (⟨a1, a2, a3, a4⟩ : Item) [.int .i64 a1, .int .i64 a2, .int .i64 a3, .sl none a4.length (enL a4)] := ⟨rfl⟩
instance {a1 : Int} {a2 : Int} {a3 : Int} {a4 : List (UInt8)} {v4 : V} {r : List V} {xs : List Item} [h4 : SlL (UInt8) v4 a4] [h : FoldL Item r xs] : FoldL Item (.int .i64 a1 :: .int .i64 a2 :: .int .i64 a3 :: v4 :: r) (⟨a1, a2, a3, a4⟩ :: xs) := ⟨by rw [enL_cons, ← h.eq, h4.eq]; rfl⟩
structure Got where
  frm : Int
  seq : Int
  gap : Bool
  body : List (UInt8)
def Got.enc (x : Got) : List V := [.int .i64 x.frm, .int .i64 x.seq, .bool x.gap, .sl none x.body.length (enL x.body)]
instance : Cel Got := ⟨4, Got.enc, fun _ => rfl, fun m x => rb_cons rb_int (rb_cons rb_int (rb_cons rb_bool (rb_cons (rb_sl (enL_rb m _)) (rb_nil)))), fun _ => rfl⟩
instance (x : Got) : Expl x [.int .i64 x.frm, .int .i64 x.seq, .bool x.gap, .sl none x.body.length (enL x.body)] := ⟨rfl⟩
instance (priority := high) {a1 : Int} {a2 : Int} {a3 : Bool} {a4 : List (UInt8)} : Expl (⟨a1, a2, a3, a4⟩ : Got) [.int .i64 a1, .int .i64 a2, .bool a3, .sl none a4.length (enL a4)] := ⟨rfl⟩
instance {a1 : Int} {a2 : Int} {a3 : Bool} {a4 : List (UInt8)} {v4 : V} {r : List V} {xs : List Got} [h4 : SlL (UInt8) v4 a4] [h : FoldL Got r xs] : FoldL Got (.int .i64 a1 :: .int .i64 a2 :: .bool a3 :: v4 :: r) (⟨a1, a2, a3, a4⟩ :: xs) := ⟨by rw [enL_cons, ← h.eq, h4.eq]; rfl⟩
structure Pair where
  frm : Int
  to : Int
def Pair.enc (x : Pair) : List V := [.int .i64 x.frm, .int .i64 x.to]
instance : Cel Pair := ⟨2, Pair.enc, fun _ => rfl, fun m x => rb_cons rb_int (rb_cons rb_int (rb_nil)), fun _ => rfl⟩
instance (x : Pair) : Expl x [.int .i64 x.frm, .int .i64 x.to] := ⟨rfl⟩
instance (priority := high) {a1 : Int} {a2 : Int} : Expl (⟨a1, a2⟩ : Pair) [.int .i64 a1, .int .i64 a2] := ⟨rfl⟩
instance {a1 : Int} {a2 : Int} {r : List V} {xs : List Pair}  [h : FoldL Pair r xs] : FoldL Pair (.int .i64 a1 :: .int .i64 a2 :: r) (⟨a1, a2⟩ :: xs) := ⟨by rw [enL_cons, ← h.eq]; rfl⟩
structure Deed where
  act : Int
  n : Int
  x : Item
def Deed.enc (x : Deed) : List V := [.int .i64 x.act, .int .i64 x.n, .int .i64 x.x.frm, .int .i64 x.x.to, .int .i64 x.x.seq, .sl none x.x.body.length (enL x.x.body)]
instance : Cel Deed := ⟨6, Deed.enc, fun _ => rfl, fun m x => rb_cons rb_int (rb_cons rb_int (rb_cons rb_int (rb_cons rb_int (rb_cons rb_int (rb_cons (rb_sl (enL_rb m _)) (rb_nil)))))), fun _ => rfl⟩
instance (x : Deed) : Expl x [.int .i64 x.act, .int .i64 x.n, .int .i64 x.x.frm, .int .i64 x.x.to, .int .i64 x.x.seq, .sl none x.x.body.length (enL x.x.body)] := ⟨rfl⟩
instance (priority := high) {a1 : Int} {a2 : Int} {a3 : Int} {a4 : Int} {a5 : Int} {a6 : List (UInt8)} : Expl (⟨a1, a2, ⟨a3, a4, a5, a6⟩⟩ : Deed) [.int .i64 a1, .int .i64 a2, .int .i64 a3, .int .i64 a4, .int .i64 a5, .sl none a6.length (enL a6)] := ⟨rfl⟩
instance {a1 : Int} {a2 : Int} {a3 : Int} {a4 : Int} {a5 : Int} {a6 : List (UInt8)} {v6 : V} {r : List V} {xs : List Deed} [h6 : SlL (UInt8) v6 a6] [h : FoldL Deed r xs] : FoldL Deed (.int .i64 a1 :: .int .i64 a2 :: .int .i64 a3 :: .int .i64 a4 :: .int .i64 a5 :: v6 :: r) (⟨a1, a2, ⟨a3, a4, a5, a6⟩⟩ :: xs) := ⟨by rw [enL_cons, ← h.eq, h6.eq]; rfl⟩

/-! ### Arguments -/
def I64 (n : Int) : Prop := -9223372036854775808 ≤ n ∧ n ≤ 9223372036854775807
theorem wf_i64 {n : Int} (h : (Lit.int .i64 n).wf = true) : I64 n := by
  simpa [Lit.wf, I64, IntKind.min, IntKind.max, IntKind.signed, IntKind.bits] using h
theorem wf_u8 {n : Int} (h : (Lit.int .u8 n).wf = true) : 0 ≤ n ∧ n ≤ 255 := by
  simpa [Lit.wf, IntKind.min, IntKind.max, IntKind.signed, IntKind.bits] using h
theorem ty_int {k : IntKind} {v : V} (h : TyA (.int k) v) : ∃ n, v = .int k n ∧ (Lit.int k n).wf = true := by
  obtain ⟨n, h1, h2⟩ := (show TyV (.int k) [v] from h)
  exact ⟨n, by simpa using h1, h2⟩
theorem tv_i64 {cs : List V} (h : TyV (.int .i64) cs) : ∃ n : Int, cs = Cel.enc n ∧ I64 n := by
  obtain ⟨n, rfl, h2⟩ := h
  exact ⟨n, rfl, wf_i64 h2⟩
theorem tv_u8 {cs : List V} (h : TyV (.int .u8) cs) : ∃ n : UInt8, cs = Cel.enc n ∧ True := by
  obtain ⟨n, rfl, h2⟩ := h
  have := wf_u8 h2
  refine ⟨UInt8.ofNat n.toNat, ?_, trivial⟩
  show _ = [V.int .u8 ((UInt8.ofNat n.toNat).toNat : Int)]
  have : ((UInt8.ofNat n.toNat).toNat : Int) = n := by rw [UInt8.toNat_ofNat']; omega
  rw [this]
theorem tv_list {α : Type} [Cel α] {t : Ty} {ok : α → Prop} (hf : ∀ cs, TyV t cs → ∃ x : α, cs = Cel.enc x ∧ ok x) : ∀ es : List (List V), (∀ x ∈ es, TyV t x) → ∃ l : List α, es.flatten = enL l ∧ es.length = l.length ∧ ∀ x ∈ l, ok x
  | [], _ => ⟨[], rfl, rfl, by simp⟩
  | e :: es, h => by
    obtain ⟨l, h1, h2, h3⟩ := tv_list hf es fun x hx => h x (List.mem_cons_of_mem _ hx)
    obtain ⟨x, rfl, hx⟩ := hf e (h e (List.mem_cons_self ..))
    exact ⟨x :: l, by rw [List.flatten_cons, enL_cons, h1], by simp [h2], by simpa using ⟨hx, h3⟩⟩
theorem tv_sl {α : Type} [Cel α] {t : Ty} {ok : α → Prop} (hf : ∀ cs, TyV t cs → ∃ x : α, cs = Cel.enc x ∧ ok x) {cs : List V} (h : TyV (.sl t) cs) : ∃ l : List α, cs = Cel.enc l ∧ (l.length ≤ 140737488351232 ∧ ∀ x ∈ l, ok x) := by
  obtain ⟨es, rfl, h1, h2⟩ := h
  obtain ⟨l, h3, h4, h5⟩ := tv_list hf es h2
  exact ⟨l, by rw [h3, h4]; rfl, by omega, h5⟩
theorem ty_sl {α : Type} [Cel α] {t : Ty} {ok : α → Prop} (hf : ∀ cs, TyV t cs → ∃ x : α, cs = Cel.enc x ∧ ok x) {v : V} (h : TyA (.sl t) v) : ∃ l : List α, v = .sl none l.length (enL l) ∧ l.length ≤ 140737488351232 ∧ ∀ x ∈ l, ok x := by
  obtain ⟨l, h1, h2⟩ := tv_sl hf (show TyV (.sl t) [v] from h)
  have h1 : [v] = [V.sl none l.length (enL l)] := h1
  exact ⟨l, by simpa using h1, h2⟩
abbrev tyItem : Ty := .st [.int .i64, .int .i64, .int .i64, .sl (.int .u8)]
def Item.ok (x : Item) : Prop := I64 x.frm ∧ I64 x.to ∧ I64 x.seq ∧ x.body.length ≤ 140737488351232
theorem tv_item {cs : List V} (h : TyV tyItem cs) : ∃ x : Item, cs = Cel.enc x ∧ x.ok := by
  simp only [tyItem, TyV, TyL] at h
  obtain ⟨_, _, rfl, ⟨a, rfl, ha⟩, _, _, rfl, ⟨b, rfl, hb⟩, _, _, rfl, ⟨c, rfl, hc⟩, d, _, rfl, hd, rfl⟩ := h
  obtain ⟨b', rfl, hl⟩ := tv_sl (fun _ => tv_u8) (show TyV (.sl (.int .u8)) d from by simpa only [TyV] using hd)
  exact ⟨⟨a, b, c, b'⟩, rfl, wf_i64 ha, wf_i64 hb, wf_i64 hc, hl.1⟩
abbrev tyPair : Ty := .st [.int .i64, .int .i64]
def Pair.ok (x : Pair) : Prop := I64 x.frm ∧ I64 x.to
theorem tv_pair {cs : List V} (h : TyV tyPair cs) : ∃ x : Pair, cs = Cel.enc x ∧ x.ok := by
  simp only [tyPair, TyV, TyL] at h
  obtain ⟨_, _, rfl, ⟨a, rfl, ha⟩, _, _, rfl, ⟨b, rfl, hb⟩, rfl⟩ := h
  exact ⟨⟨a, b⟩, rfl, wf_i64 ha, wf_i64 hb⟩
end Go.Abs
