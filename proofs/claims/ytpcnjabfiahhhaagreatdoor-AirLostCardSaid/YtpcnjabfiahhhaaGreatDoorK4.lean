/- A part of the proof of RowAirFits, RowAirHeard, RowAirOrder, RowAirLost: lemmas alone, without conditions. -/
import Derived.Test.YtpcnjabfiahhhaaGreatDoorK3
import Derived.Laws.Strings
import Derived.Laws.BytesString
set_option linter.all false
namespace Go.Abs
open Go.RowKit (Below)
set_option linter.unusedVariables false
set_option linter.unusedSimpArgs false
def Quiet (P : Program) (S : Nat → Nat → Prop) (bl : List Nat) (w : World) (r : V) (s : Sem Value) : Prop :=
 ∃ c, s.run P w = .ok c w ∧ Rep S bl w r c ∧ cJ r c = []
section
variable {P : Program} {S : Nat → Nat → Prop} {bl : List Nat} {w : World}
theorem Rep.int_inv {k : IntKind} {n : Int} {c : Value} (h : Rep S bl w (.int k n) c) : c = .int k n := by simpa only [Rep] using h
theorem Rep.bool_inv {b : Bool} {c : Value} (h : Rep S bl w (.bool b) c) : c = .bool b := by simpa only [Rep] using h
theorem Rep.str_inv {l : List UInt8} {c : Value} (h : Rep S bl w (.str l) c) : c = .string ⟨l.toArray⟩ := by
 simp only [Rep] at h
 obtain ⟨a, rfl, h2⟩ := h
 subst h2
 cases a
 simp
theorem Rep.ptr_inv {id off : Nat} {c : Value} (h : Rep S bl w (.ptr id off) c) : ∃ b, bl[id]? = some b ∧ c = .pointer (some ⟨b, off, none⟩) := by simpa only [Rep] using h
theorem Rep.fp_inv {cs : List V} {i : Nat} {c : Value} (h : Rep S bl w (.fp cs i) c) : ∃ b o, c = .pointer (some ⟨b, o + i, none⟩) ∧ RepC S bl w cs b o := by simpa only [Rep] using h
theorem Rep.agg_inv {cs : List V} {c : Value} (h : Rep S bl w (.agg cs) c) : ∃ a, c = .agg a ∧ RepL S bl w cs a.toList ∧ ∀ v ∈ cs, v.single = true := by simpa only [Rep] using h
theorem nX {op : BinOp} {t : TypeId} {x y : Operand} {a b : Value} (ha : a ≠ .nilIface) (hb : ∀ u, a ≠ .agg u) : (eqGuard op t x y a b).run P w = .ok () w := by
 cases a <;> first | exact absurd rfl ha | exact absurd rfl (hb _) | (cases op <;> rfl)
def aH9 : Value → Bool
 | .nilIface => true
 | _ => false
theorem aFx {t : TypeId} {p q : Bool} (hd : P.underlying t = some .bool) : (Op.equal t (.bool p) (.bool q)).run P w = .ok (p == q) w := by
 show (Op.equalIn (9999 + 1) t _ _).run P w = _
 rw [Op.equalIn]
 simp only [Sem.run_bind, aO hd, Result.andThen_ok, Sem.run_pure]
theorem aFy {t e : TypeId} {q : Option Addr} (hd : P.underlying t = some (.pointer e)) : (Op.equal t (.pointer none) (.pointer q)).run P w = .ok q.isNone w := by
 show (Op.equalIn (9999 + 1) t _ _).run P w = _
 rw [Op.equalIn]
 simp only [Sem.run_bind, aO hd, Result.andThen_ok, Sem.run_pure]
theorem aFz {t e : TypeId} {q : Option Addr} (hd : P.underlying t = some (.pointer e)) : (Op.equal t (.pointer q) (.pointer none)).run P w = .ok q.isNone w := by
 show (Op.equalIn (9999 + 1) t _ _).run P w = _
 rw [Op.equalIn]
 cases q <;> simp only [Sem.run_bind, aO hd, Result.andThen_ok, Sem.run_pure] <;> rfl
theorem L8 {t : TypeId} {ms} {c : Value} (hd : P.underlying t = some (.interface ms)) (hc : c = .nilIface ∨ ∃ u v, c = .iface u v) : (Op.equal t .nilIface c).run P w = .ok (aH9 c) w := by
 show (Op.equalIn (9999 + 1) t _ _).run P w = _
 rw [Op.equalIn]
 rcases hc with rfl | ⟨u, v, rfl⟩ <;> simp only [Sem.run_bind, aO hd, Result.andThen_ok, Sem.run_pure, aH9]
theorem L9 {t : TypeId} {ms} {c : Value} (hd : P.underlying t = some (.interface ms)) (hc : c = .nilIface ∨ ∃ u v, c = .iface u v) : (Op.equal t c .nilIface).run P w = .ok (aH9 c) w := by
 show (Op.equalIn (9999 + 1) t _ _).run P w = _
 rw [Op.equalIn]
 rcases hc with rfl | ⟨u, v, rfl⟩ <;> simp only [Sem.run_bind, aO hd, Result.andThen_ok, Sem.run_pure, aH9]
theorem aG0 (op : BinOp) (t u : TypeId) (k j : IntKind) (a b : Int) : binOp op t (.int k a) (.int j b) = binOp op u (.int k a) (.int j b) := by cases op <;> rfl
theorem aIu (op : BinOp) (h : op = .shl ∨ op = .shr) (t : TypeId) (k j : IntKind) (a b : Int) : binOp op t (.int k a) (.int j b) = binOp op t (.int k a) (.int k b) := by
 rcases h with rfl | rfl <;> rfl
theorem aYl {op : BinOp} {t : TypeId} {x y : Operand} {u v r : V} {a b : Value} (hu : Rep S bl w u a) (hv : Rep S bl w v b) (h : bin op u v = some r) :
 Quiet P S bl w r (do eqGuard op t x y a b; binOp op t a b) := by
 cases u <;> try (simp [bin] at h; done)
 ·rename_i k n
  cases v <;> try (simp [bin] at h; done)
  rename_i j m
  obtain rfl := hu.int_inv
  obtain rfl := hv.int_inv
  have hg := nX (P := P) (w := w) (op := op) (t := t) (x := x) (y := y) (a := .int k n) (b := .int j m) (by simp) (by simp)
  have key : iop op k n m = some r → (op = .shl ∨ op = .shr ∨ k = j) → Quiet P S bl w r (do eqGuard op t x y (.int k n) (.int j m); binOp op t (.int k n) (.int j m)) := by
   intro h hk
   obtain ⟨c, h1, h2, h3⟩ := aUg (P := P) (S := S) (bl := bl) (w := w) h
   refine ⟨c, ?_, h2, h3⟩
   rw [aG0 op t 0]
   have : binOp op 0 (.int k n) (.int j m) = binOp op 0 (.int k n) (.int k m) := by
    rcases hk with hk | hk | rfl
    ·exact aIu op (.inl hk) 0 k j n m
    ·exact aIu op (.inr hk) 0 k j n m
    ·rfl
   rw [this]
   simp only [Sem.run_bind, hg, Result.andThen_ok, h1]
  cases op <;> simp only [bin] at h
  case shl => exact key h (.inl rfl)
  case shr => exact key h (.inr (.inl rfl))
  all_goals
   split at h
   ·rename_i hk; exact key h (.inr (.inr hk))
   ·cases h
 ·rename_i s
  cases v <;> try (simp [bin] at h; done)
  rename_i s'
  obtain rfl := hu.str_inv
  obtain rfl := hv.str_inv
  have hg := nX (P := P) (w := w) (op := op) (t := t) (x := x) (y := y) (a := .string ⟨s.toArray⟩) (b := .string ⟨s'.toArray⟩) (by simp) (by simp)
  cases op <;> simp only [bin] at h <;> try cases h
  ·split at h
   ·cases h
   ·rename_i hs
    cases h
    refine ⟨.string (⟨s.toArray⟩ ++ ⟨s'.toArray⟩), ?_, ?_, rfl⟩
    ·simp only [Sem.run_bind, hg, Result.andThen_ok, binOp, Op.stringOp, Sem.run_ite]
     rw [if_neg]
     ·rfl
     ·simpa [ByteArray.size, IntKind.max, IntKind.signed, IntKind.bits] using hs
    ·simp only [Rep]
     exact ⟨_, rfl, by simp⟩
  ·refine ⟨.bool (s == s'), ?_, fY .., rfl⟩
   simp [hg, binOp, Op.stringOp, ByteArray.toList_eq]
  ·refine ⟨.bool !(s == s'), ?_, fY .., rfl⟩
   simp [hg, binOp, Op.stringOp, ByteArray.toList_eq]
theorem aYm {op : BinOp} {neg : Bool} {t : TypeId} {x y : Operand} {r : V} {vs : List V} {a b : Value} (hvs : RepL S bl w vs [a, b]) (ho : op = .eql ∧ neg = false ∨ op = .neq ∧ neg = true)
 (ht : P.underlying t = some .bool) (h : aNm neg vs = some r) : Quiet P S bl w r (do eqGuard op t x y a b; binOp op t a b) := by
 unfold aNm at h
 split at h
 ·rename_i p q
  cases h
  simp only [RepL] at hvs
  obtain ⟨_, _, e1, h1, _, _, e2, h2, e3⟩ := hvs
  simp only [List.cons.injEq] at e1
  obtain ⟨rfl, rfl⟩ := e1
  simp only [List.cons.injEq] at e2
  obtain ⟨rfl, _⟩ := e2
  obtain rfl := h1.bool_inv
  obtain rfl := h2.bool_inv
  have hg := nX (P := P) (w := w) (op := op) (t := t) (x := x) (y := y) (a := .bool p) (b := .bool q) (by simp) (by simp)
  refine ⟨.bool (neg != (p == q)), ?_, fY .., rfl⟩
  have he := aFx (P := P) (w := w) (p := p) (q := q) ht
  rcases ho with ⟨rfl, rfl⟩ | ⟨rfl, rfl⟩
  ·simp only [Sem.run_bind, hg, Result.andThen_ok, binOp, he, Sem.run_pure]; simp
  ·simp only [Sem.run_bind, hg, Result.andThen_ok, binOp, he, Sem.run_pure]; simp
 ·cases h
theorem rK {vs : List V} {a b : Value} (h : RepL S bl w vs [a, b]) : ∃ p q, vs = [p, q] ∧ Rep S bl w p a ∧ Rep S bl w q b := by
 match vs, h with
 | [], h => simp [RepL] at h
 | [p], h => simp [RepL] at h
 | [p, q], h =>
   simp only [RepL] at h
   obtain ⟨_, _, e1, h1, _, _, e2, h2, e3⟩ := h
   simp only [List.cons.injEq] at e1
   obtain ⟨rfl, rfl⟩ := e1
   simp only [List.cons.injEq] at e2
   obtain ⟨rfl, _⟩ := e2
   exact ⟨p, q, rfl, h1, h2⟩
 | p :: q :: r :: s, h =>
   simp only [RepL] at h
   obtain ⟨_, _, e1, h1, _, _, e2, h2, _, _, e3, _⟩ := h
   simp only [List.cons.injEq] at e1
   obtain ⟨rfl, rfl⟩ := e1
   simp only [List.cons.injEq] at e2
   obtain ⟨rfl, rfl⟩ := e2
   simp at e3
theorem fZ {vs : List V} {a : Value} (h : RepL S bl w vs [a]) : ∃ p, vs = [p] ∧ Rep S bl w p a := by
 match vs, h with
 | [], h => simp [RepL] at h
 | [p], h =>
   simp only [RepL] at h
   obtain ⟨_, _, e1, h1, e2⟩ := h
   simp only [List.cons.injEq] at e1
   obtain ⟨rfl, rfl⟩ := e1
   exact ⟨p, rfl, h1⟩
 | p :: q :: s, h =>
   simp only [RepL] at h
   obtain ⟨_, _, e1, h1, _, _, e2, _⟩ := h
   simp only [List.cons.injEq] at e1
   obtain ⟨rfl, rfl⟩ := e1
   simp at e2
theorem xM {v : V} {c : Value} {b : Bool} (h : Rep S bl w v c) (hb : xS v = some b) : ∃ q : Option Addr, c = .pointer q ∧ q.isNone = b := by
 cases v <;> simp only [xS] at hb <;> try cases hb
 ·obtain ⟨b, _, rfl⟩ := h.ptr_inv; exact ⟨_, rfl, rfl⟩
 ·simp only [Rep] at h; exact ⟨none, h, rfl⟩
 ·obtain ⟨b, o, rfl, _⟩ := h.fp_inv; exact ⟨_, rfl, rfl⟩
theorem xN {v : V} {c : Value} {b : Bool} (h : Rep S bl w v c) (hb : d6 v = some b) : (c = .nilIface ∨ ∃ u v, c = .iface u v) ∧ (aH9 c) = b := by
 cases v <;> simp only [d6] at hb <;> try cases hb
 ·simp only [Rep] at h; obtain ⟨u, rfl, _⟩ := h; exact ⟨.inr ⟨_, _, rfl⟩, rfl⟩
 ·simp only [Rep] at h; subst h; exact ⟨.inl rfl, rfl⟩
theorem aCk {x y : Option Bool} {b : Bool} (h : M5 x y = some b) : (x = some true ∧ y = some b) ∨ (x = some b ∧ y = some true) := by
 unfold M5 at h
 split at h <;> first | (cases h; simp) | cases h
theorem aYn {op : BinOp} {neg : Bool} {t e : TypeId} {x y : Operand} {r : V} {vs : List V} {a b : Value} (hvs : RepL S bl w vs [a, b]) (ho : op = .eql ∧ neg = false ∨ op = .neq ∧ neg = true)
 (ht : P.underlying t = some (.pointer e)) (h : aNn neg vs = some r) : Quiet P S bl w r (do eqGuard op t x y a b; binOp op t a b) := by
 obtain ⟨p, q, rfl, h1, h2⟩ := rK hvs
 simp only [aNn, Option.map_eq_some_iff] at h
 obtain ⟨d, hd, rfl⟩ := h
 refine ⟨.bool (neg != d), ?_, fY .., rfl⟩
 have key : ∀ (u v : Option Addr), a = .pointer u → b = .pointer v → (Op.equal t a b).run P w = .ok d w → (do eqGuard op t x y a b; binOp op t a b : Sem Value).run P w = .ok (.bool (neg != d)) w := by
  rintro u v rfl rfl he
  have hg := nX (P := P) (w := w) (op := op) (t := t) (x := x) (y := y) (a := .pointer u) (b := .pointer v) (by simp) (by simp)
  rcases ho with ⟨rfl, rfl⟩ | ⟨rfl, rfl⟩
  ·simp only [Sem.run_bind, hg, Result.andThen_ok, binOp, he, Sem.run_pure]; simp
  ·simp only [Sem.run_bind, hg, Result.andThen_ok, binOp, he, Sem.run_pure]; simp
 rcases aCk hd with ⟨e1, e2⟩ | ⟨e1, e2⟩
 ·obtain ⟨u, rfl, hu⟩ := xM h1 e1
  obtain ⟨v, rfl, hv⟩ := xM h2 e2
  refine key u v rfl rfl ?_
  have : u = none := by simpa using hu
  subst this
  rw [aFy ht, hv]
 ·obtain ⟨u, rfl, hu⟩ := xM h1 e1
  obtain ⟨v, rfl, hv⟩ := xM h2 e2
  refine key u v rfl rfl ?_
  have : v = none := by simpa using hv
  subst this
  rw [aFz ht, hu]
theorem aYo {op : BinOp} {neg : Bool} {t : TypeId} {ms} {x y : Operand} {r : V} {vs : List V} {a b : Value} (hvs : RepL S bl w vs [a, b]) (ho : op = .eql ∧ neg = false ∨ op = .neq ∧ neg = true)
 (ht : P.underlying t = some (.interface ms)) (hc : (match x, y with | .const _, _ => true | _, .const _ => true | _, _ => false) = true) (h : aNo neg vs = some r) : Quiet P S bl w r (do eqGuard op t x y a b; binOp op t a b) := by
 obtain ⟨p, q, rfl, h1, h2⟩ := rK hvs
 simp only [aNo, Option.map_eq_some_iff] at h
 obtain ⟨d, hd, rfl⟩ := h
 refine ⟨.bool (neg != d), ?_, fY .., rfl⟩
 have key : (a = .nilIface ∨ ∃ u v, a = .iface u v) → (b = .nilIface ∨ ∃ u v, b = .iface u v) → (Op.equal t a b).run P w = .ok d w → (do eqGuard op t x y a b; binOp op t a b : Sem Value).run P w = .ok (.bool (neg != d)) w := by
  intro ha hb he
  have hg : (eqGuard op t x y a b).run P w = .ok () w := by
   rcases ha with rfl | ⟨u, v, rfl⟩
   ·rcases hb with rfl | ⟨u, v, rfl⟩
    ·unfold eqGuard
     rcases ho with ⟨rfl, rfl⟩ | ⟨rfl, rfl⟩ <;> (cases x <;> cases y <;> first | rfl | cases hc)
    ·cases op <;> rfl
   ·exact nX (by simp) (by simp)
  have hb2 : (binOp op t a b).run P w = .ok (.bool (neg != d)) w := by
   rcases ha with rfl | ⟨u, v, rfl⟩ <;> rcases hb with rfl | ⟨u', v', rfl⟩ <;> rcases ho with ⟨rfl, rfl⟩ | ⟨rfl, rfl⟩ <;> simp only [binOp, Sem.run_bind, he, Result.andThen_ok, Sem.run_pure] <;> simp
  simp only [Sem.run_bind, hg, Result.andThen_ok, hb2]
 rcases aCk hd with ⟨e1, e2⟩ | ⟨e1, e2⟩
 ·obtain ⟨a1, a2⟩ := xN h1 e1
  obtain ⟨b1, b2⟩ := xN h2 e2
  have : a = .nilIface := by rcases a1 with rfl | ⟨u, v, rfl⟩ <;> simp_all [aH9]
  subst this
  exact key a1 b1 (by rw [L8 ht b1, b2])
 ·obtain ⟨a1, a2⟩ := xN h1 e1
  obtain ⟨b1, b2⟩ := xN h2 e2
  have : b = .nilIface := by rcases b1 with rfl | ⟨u, v, rfl⟩ <;> simp_all [aH9]
  subst this
  exact key a1 b1 (by rw [L9 ht a1, a2])
theorem aYp {op : BinOp} {neg : Bool} {t : TypeId} {ms} {x y : Operand} {r : V} {vs : List V} {a b : Value} {ts : List TypeId} (hvs : RepL S bl w vs [a, b]) (ho : op = .eql ∧ neg = false ∨ op = .neq ∧ neg = true)
 (ht : P.underlying t = some (.interface ms)) (hts : ∀ u ∈ ts, ∃ i, P.info? u = some i ∧ i.comparable = true ∧ ∃ k, P.underlying u = some (.int k)) (h : aNr neg ts vs = some r) : Quiet P S bl w r (do eqGuard op t x y a b; binOp op t a b) := by
 obtain ⟨p, q, rfl, h1, h2⟩ := rK hvs
 simp only [aNr, Option.map_eq_some_iff] at h
 obtain ⟨d, hd, rfl⟩ := h
 refine ⟨.bool (neg != d), ?_, fY .., rfl⟩
 have key : (a = .nilIface ∨ ∃ u v, a = .iface u v) → (b = .nilIface ∨ ∃ u v, b = .iface u v) → ¬ (a = .nilIface ∧ b = .nilIface) → (Op.equal t a b).run P w = .ok d w → (do eqGuard op t x y a b; binOp op t a b : Sem Value).run P w = .ok (.bool (neg != d)) w := by
  intro ha hb hn he
  have hg : (eqGuard op t x y a b).run P w = .ok () w := by
   rcases ha with rfl | ⟨u, v, rfl⟩
   ·rcases hb with rfl | ⟨u, v, rfl⟩
    ·exact absurd ⟨rfl, rfl⟩ hn
    ·cases op <;> rfl
   ·exact nX (by simp) (by simp)
  have hb2 : (binOp op t a b).run P w = .ok (.bool (neg != d)) w := by
   rcases ha with rfl | ⟨u, v, rfl⟩ <;> rcases hb with rfl | ⟨u', v', rfl⟩ <;> rcases ho with ⟨rfl, rfl⟩ | ⟨rfl, rfl⟩ <;> simp only [binOp, Sem.run_bind, he, Result.andThen_ok, Sem.run_pure] <;> simp
  simp only [Sem.run_bind, hg, Result.andThen_ok, hb2]
 unfold aRp at hd
 split at hd
 ·rename_i t1 v1 t2 v2
  simp only [Rep] at h1 h2
  obtain ⟨c1, rfl, h1⟩ := h1
  obtain ⟨c2, rfl, h2⟩ := h2
  refine key (.inr ⟨_, _, rfl⟩) (.inr ⟨_, _, rfl⟩) (by simp) ?_
  show (Op.equalIn (9999 + 1) t _ _).run P w = _
  rw [Op.equalIn]
  simp only [Sem.run_bind, aO ht, Result.andThen_ok]
  split at hd
  ·rename_i htt
   subst htt
   split at hd
   ·split at hd
    ·rename_i k a' j b' hc
     obtain ⟨hc, rfl⟩ := hc
     cases hd
     obtain rfl := h1.1.int_inv
     obtain rfl := h2.1.int_inv
     obtain ⟨i, i1, i2, k', i3⟩ := hts t1 (by simpa using hc)
     rw [if_neg (by simp)]
     simp only [Sem.run_bind, fJ i1, Result.andThen_ok, i2, Bool.not_true, Bool.false_eq_true, if_false]
     rw [Op.equalIn]
     simp only [Sem.run_bind, aO i3, Result.andThen_ok, if_true, Sem.run_pure]
    ·cases hd
   ·cases hd
  ·rename_i htt
   cases hd
   rw [if_pos htt]; rfl
 ·cases hd
  simp only [Rep] at h1 h2
  subst h1
  obtain ⟨c2, rfl, h2⟩ := h2
  exact key (.inl rfl) (.inr ⟨_, _, rfl⟩) (by simp) (by rw [L8 ht (.inr ⟨_, _, rfl⟩)]; rfl)
 ·cases hd
  simp only [Rep] at h1 h2
  subst h2
  obtain ⟨c1, rfl, h1⟩ := h1
  exact key (.inr ⟨_, _, rfl⟩) (.inl rfl) (by simp) (by rw [L9 ht (.inr ⟨_, _, rfl⟩)]; rfl)
 ·cases hd
theorem bB3 {op : UnOp} {u r : V} {a : Value} (hu : Rep S bl w u a) (h : un op u = some r) : Quiet P S bl w r (Op.unary op a) := by
 cases u <;> cases op <;> simp only [un] at h <;> try cases h
 ·obtain rfl := hu.bool_inv; exact ⟨_, rfl, fY .., rfl⟩
 ·obtain rfl := hu.int_inv; exact ⟨_, rfl, fN .., rfl⟩
 ·obtain rfl := hu.int_inv; exact ⟨_, rfl, fN .., rfl⟩
end
end Go.Abs
namespace Go.Abs
open Go.RowKit (Below)
set_option linter.unusedVariables false
set_option linter.unusedSimpArgs false
def QuietK (P : Program) (B : Nat) (S : Nat → Nat → Prop) (bl : List Nat) (w : World) (vals : List (V × Value)) (r : V) (s : Sem Value) : Prop :=
 ∃ c, s.run P w = .ok c w ∧ Rep S bl w r c ∧ (∀ t ∈ cJ r c, TipOK S w t ∧ B ≤ t.blk) ∧ ∀ x, (aS (cJ r c)).count x ≤ (aS (aH vals)).count x
section
variable {P : Program} {lim : Option Nat} {B : Nat} {F : List Nat} {S : Nat → Nat → Prop} {bl : List Nat} {vals : List (V × Value)} {H : aB} {w : World}
theorem Quiet.k {r : V} {s : Sem Value} (h : Quiet P S bl w r s) : QuietK P B S bl w vals r s := by
 obtain ⟨c, h1, h2, h3⟩ := h
 exact ⟨c, h1, h2, (by rw [h3]; intro t ht; cases ht), (by rw [h3]; intro x; simp [aS])⟩
theorem St.res (h : St lim B F S bl vals H w) {r : V} {c : Value} (hr : Rep S bl w r c) (ht : ∀ t ∈ cJ r c, TipOK S w t ∧ B ≤ t.blk) (hc : ∀ x, (aS (cJ r c)).count x ≤ (aS (aH vals)).count x) : St lim B F S bl [(r, c)] H w := by
 refine ⟨?_, h.len, h.obj, fun x => ?_, fun t k => ?_, h.stab, h.base, h.refs, h.sep⟩
 ·intro p hp; simp at hp; subst hp; exact hr
 ·have := h.nodup x; have := hc x; simp only [aH, List.append_nil]; omega
 ·simp only [aH, List.append_nil] at k; exact k.elim (ht t) fun y => h.tip t (.inr y)
theorem QuietK.good {r : V} {s : Sem Value} (h : St lim B F S bl vals H w) (q : QuietK P B S bl w vals r s) : uY P lim B F S bl H w r H ((do pure (.value (← s)) : Sem Next).run P w) := by
 obtain ⟨c, h1, h2, h3, h4⟩ := q
 exact ⟨c, w, S, bl, .inl (by simp only [Sem.run_bind, h1, Result.andThen_ok, Sem.run_pure]), h.res h2 h3 h4, Ext.refl _ _ _ _ _ _ _⟩
theorem bAt {s f off : Nat} {fs : Array Field} {g : Field} {vs : List V} {r : V} {a : Value} (hvs : RepL S bl w vs [a]) (hs : P.underlying s = some (.struct fs)) (hf : fs[f]? = some g) (ho : g.offset = off)
 {i : TypeInfo} (hi : P.info? g.type = some i) (hz : i.size ≠ 0) (h : aFa off vs = some r) : Quiet P S bl w r (Instr.fieldAt s a f) := by
 obtain ⟨p, rfl, h1⟩ := fZ hvs
 have run : ∀ ad : Addr, (Instr.fieldAt s (.pointer (some ad)) f).run P w = .ok (.pointer (some (ad.add off))) w := by
  intro ad
  have hsz : (Go.sizeOf g.type).run P w = .ok i.size w := bT (by simp [fP, hi])
  simp only [Instr.fieldAt, Sem.run_bind, aO hs, Result.andThen_ok, hf, Instr.sureAddr, Sem.run_pure, fieldPlace, hsz, Sem.run_ite, if_neg hz, ho]
 cases p <;> simp only [aFa] at h <;> cases h
 ·obtain ⟨b, hb, rfl⟩ := h1.ptr_inv
  exact ⟨_, run _, by rw [add_none]; simp only [Rep]; exact ⟨b, hb, rfl⟩, rfl⟩
 ·obtain ⟨b, o, rfl, hc⟩ := h1.fp_inv
  exact ⟨_, run _, by rw [add_none]; simp only [Rep]; exact ⟨b, o, by rw [Nat.add_assoc], hc⟩, rfl⟩
theorem aBs {t e : TypeId} {sz n cap : Nat} {ad : Addr} {k : IntKind} {i : Int} (ht : P.underlying t = some (.slice e)) (hz : fP P e sz = true) (hi : 0 ≤ i ∧ i < (n : Int)) :
 (Instr.indexAt t (.slice (some ad) n cap) (.int k i)).run P w = .ok (.pointer (some (ad.add (i.toNat * sz)))) w := by
 simp only [Instr.indexAt, asIntOf, Sem.run_bind, Sem.run_pure, Result.andThen_ok, aO ht, Sem.run_ite, if_pos hi, bT hz]
theorem bAu {t e : TypeId} {sz : Nat} {vs : List V} {r : V} {a b : Value} (hvs : RepL S bl w vs [a, b]) (ht : P.underlying t = some (.slice e)) (hz : fP P e sz = true) (h : aIx sz vs = some r) :
 Quiet P S bl w r (Instr.indexAt t a b) := by
 obtain ⟨p, q, rfl, h1, h2⟩ := rK hvs
 cases p <;> try (simp [aIx] at h; done)
 ·rename_i own n cs
  cases q <;> try (simp [aIx] at h; done)
  rename_i k i
  simp only [aIx] at h
  split at h
  ·rename_i hi
   cases h
   obtain rfl := h2.int_inv
   simp only [Rep] at h1
   obtain ⟨ad, cap, rfl, hle, hnil, hc⟩ := h1
   cases ad with
   | none => have := (hnil rfl).1; omega
   | some ad =>
     obtain ⟨hsp, hC⟩ := hc ad rfl
     refine ⟨_, aBs ht hz hi, ?_, rfl⟩
     rw [kS (hsp (by omega)), add_none]
     simp only [Rep]
     exact ⟨ad.block, ad.off, rfl, hC⟩
  ·cases h
 ·rename_i sz' id off n
  cases q <;> try (simp [aIx] at h; done)
  rename_i k i
  simp only [aIx] at h
  split at h
  ·rename_i hi
   cases h
   obtain rfl := h2.int_inv
   simp only [Rep] at h1
   obtain ⟨bb, cap, hb, hle, rfl, _⟩ := h1
   refine ⟨_, aBs ht hz hi, ?_, rfl⟩
   rw [add_none]
   simp only [Rep]
   exact ⟨bb, hb, rfl⟩
  ·cases h
theorem aWx {t e : TypeId} {sz len : Nat} {vs : List V} {r : V} {a b : Value} (hvs : RepL S bl w vs [a, b]) (ht : P.underlying t = some (.array len e)) (hz : fP P e sz = true) (h : Z3 sz len vs = some r) :
 Quiet P S bl w r (Instr.indexAt t a b) := by
 obtain ⟨p, q, rfl, h1, h2⟩ := rK hvs
 have run : ∀ (ad : Addr) (k : IntKind) (i : Int), 0 ≤ i ∧ i < (len : Int) → (Instr.indexAt t (.pointer (some ad)) (.int k i)).run P w = .ok (.pointer (some (ad.add (i.toNat * sz)))) w := by
  intro ad k i hi
  simp only [Instr.indexAt, asIntOf, Sem.run_bind, Sem.run_pure, Result.andThen_ok, aO ht, Instr.sureAddr, Sem.run_ite, if_pos hi, bT hz]
 cases p <;> try (simp [Z3] at h; done)
 all_goals
  cases q <;> try (simp [Z3] at h; done)
  simp only [Z3] at h
  split at h
  ·rename_i hi
   cases h
   obtain rfl := h2.int_inv
   first
    | (obtain ⟨bb, hb, rfl⟩ := h1.ptr_inv
       exact ⟨_, run _ _ _ hi, by rw [add_none]; simp only [Rep]; exact ⟨bb, hb, rfl⟩, rfl⟩)
    | (obtain ⟨bb, o, rfl, hc⟩ := h1.fp_inv
       exact ⟨_, run _ _ _ hi, by rw [add_none]; simp only [Rep]; exact ⟨bb, o, by rw [Nat.add_assoc], hc⟩, rfl⟩)
  ·cases h
theorem tK {t : TypeId} {d : TypeDesc} (ht : P.underlying t = some d) (hd : dQ P t = false) {ad : Addr} {c : Value} (hc : w.cell? ad = some c) : (Instr.loadAt t (.pointer (some ad))).run P w = .ok c w := by
 simp only [Instr.loadAt, Instr.sureAddr, Sem.run_bind, Sem.run_pure, Result.andThen_ok, loadVar, rW ht, hd, Sem.run_ite, Bool.false_eq_true, if_false, run_load, hc]
theorem bAv {t : TypeId} {d : TypeDesc} {vs : List V} {r : V} {a : Value} (h : St lim B F S bl vals H w) (hvs : RepL S bl w vs [a]) (ht : P.underlying t = some d) (hd : dQ P t = false) (hr : aLd H vs = some r) :
 Quiet P S bl w r (Instr.loadAt t a) := by
 obtain ⟨p, rfl, h1⟩ := fZ hvs
 cases p <;> try (simp [aLd] at hr; done)
 ·rename_i id o
  obtain ⟨v, hv, rfl⟩ := Option.map_eq_some_iff.1 (show (rM H id o).map V.dis1 = some r from hr)
  obtain ⟨b, hb, rfl⟩ := h1.ptr_inv
  obtain ⟨hs, c, hc, hrep⟩ := h.get hv hb
  have hcs := V.dis1_single hs
  exact ⟨c, tK ht hd hc, hrep.dis1, (fV (.inr trivial) (.inl hcs)).trans (fF _ _)⟩
 ·rename_i cs i
  obtain ⟨v, hv, rfl⟩ := Option.map_eq_some_iff.1 (show (cs[i]?).map V.dis1 = some r from hr)
  obtain ⟨b, o, rfl, hC⟩ := h1.fp_inv
  obtain ⟨_, hs, c, hc, hrep⟩ := (kP cs b o).1 hC i v hv
  exact ⟨c, tK ht hd hc, hrep.dis1, (fV (.inr trivial) (.inl (V.dis1_single hs))).trans (fF _ _)⟩
theorem bAw {t : TypeId} {d : TypeDesc} {vs : List V} {r : V} {a : Value} (h : St lim B F S bl vals H w) (hvs : RepL S bl w vs [a]) (ht : P.underlying t = some d) (hd : dQ P t = false) (hr : aLv H vs = some r) :
 Quiet P S bl w r (Instr.loadAt t a) := by
 obtain ⟨p, rfl, h1⟩ := fZ hvs
 cases p <;> try (simp [aLv] at hr; done)
 ·rename_i id o
  obtain ⟨v, hv, rfl⟩ := Option.map_eq_some_iff.1 (show (rM H id o).map (Z4 id o) = some r from hr)
  obtain ⟨b, hb, rfl⟩ := h1.ptr_inv
  obtain ⟨hs, c, hc, hrep⟩ := h.get hv hb
  refine ⟨c, tK ht hd hc, ?_, ?_⟩
  ·unfold Z4
   split
   ·simp only [Rep] at hrep ⊢
    exact ⟨⟨b, hb, hc⟩, hrep⟩
   ·exact hrep.dis1
  ·unfold Z4
   split
   ·rfl
   ·exact (fV (.inr trivial) (.inl (V.dis1_single hs))).trans (fF _ _)
 ·rename_i cs i
  obtain ⟨v, hv, rfl⟩ := Option.map_eq_some_iff.1 (show (cs[i]?).map V.dis1 = some r from hr)
  obtain ⟨b, o, rfl, hC⟩ := h1.fp_inv
  obtain ⟨_, hs, c, hc, hrep⟩ := (kP cs b o).1 hC i v hv
  exact ⟨c, tK ht hd hc, hrep.dis1, (fV (.inr trivial) (.inl (V.dis1_single hs))).trans (fF _ _)⟩
theorem St.cells (h : St lim B F S bl vals H w) {id o n : Nat} {cs : List V} {b : Nat} (hc : bX H id o n = some cs) (hb : bl[id]? = some b) :
 cs.length = n ∧ ∃ ds : List Value, RepL S bl w cs ds ∧ (∀ (j : Nat) c, ds[j]? = some c → w.cell? ⟨b, o + j, none⟩ = some c) ∧ ∀ v ∈ cs, v.single = true := by
 unfold bX at hc
 obtain ⟨all, h1, h2⟩ := Option.bind_eq_some_iff.1 hc
 split at h2
 ·rename_i hle
  cases h2
  have ho := h.obj id all b h1 hb
  have key : ∀ (l : List V) (k : Nat), (∀ (j : Nat) v, l[j]? = some v → all[k + j]? = some v) → ∃ ds : List Value, RepL S bl w l ds ∧ (∀ (j : Nat) c, ds[j]? = some c → w.cell? ⟨b, k + j, none⟩ = some c) ∧ ∀ v ∈ l, v.single = true := by
   intro l
   induction l with
   | nil => intro k _; exact ⟨[], by simp only [RepL], fun j c hj => by simp at hj, fun v hv => by cases hv⟩
   | cons v l ih =>
     intro k hk
     have h0 := hk 0 v rfl
     rw [Nat.add_zero] at h0
     obtain ⟨a1, c, a2, a3⟩ := ho.rep k v h0
     obtain ⟨ds, b1, b2, b3⟩ := ih (k + 1) fun j u hj => by
      have := hk (j + 1) u (by simpa using hj)
      rwa [show k + 1 + j = k + (j + 1) by omega]
     refine ⟨c :: ds, by simp only [RepL]; exact ⟨c, ds, rfl, a3, b1⟩, fun j d hd => ?_, fun u hu => ?_⟩
     ·cases j with
      | zero => simp at hd; subst hd; exact a2
      | succ j =>
        have := b2 j d (by simpa using hd)
        rwa [show k + 1 + j = k + (j + 1) by omega] at this
     ·rcases List.mem_cons.1 hu with rfl | hu
      ·exact a1
      ·exact b3 u hu
  refine ⟨by simp; omega, key _ o fun j v hj => ?_⟩
  rw [List.getElem?_take] at hj
  split at hj
  ·rwa [List.getElem?_drop] at hj
  ·cases hj
 ·cases h2
theorem K8 {t : TypeId} {n b o : Nat} (ht : dQ P t = true) (hz : fP P t n = true) {ds : List Value} (hl : ds.length = n) (hc : ∀ (j : Nat) c, ds[j]? = some c → w.cell? ⟨b, o + j, none⟩ = some c) :
 (Instr.loadAt t (.pointer (some ⟨b, o, none⟩))).run P w = .ok (.agg ds.toArray) w := by
 have hu : ∃ d, P.underlying t = some d := by
  unfold dQ at ht
  cases hu : P.underlying t with
  | none => rw [hu] at ht; cases ht
  | some d => exact ⟨d, rfl⟩
 obtain ⟨d, hu⟩ := hu
 simp only [Instr.loadAt, Instr.sureAddr, Sem.run_bind, Sem.run_pure, Result.andThen_ok, loadVar, rW hu, ht, Sem.run_ite, if_true, bT hz, eA P hl hc]
theorem uB (cs : List V) (c : Value) : cJ (.agg (cs.map V.dis1)) c = [] := by
 cases c <;> first | rfl | exact fG _ _
theorem RepC.piece {vs : List V} {b o : Nat} (h : RepC S bl w vs b o) (i n : Nat) : RepC S bl w ((vs.drop i).take n) b (o + i) := by
 refine (kP _ _ _).2 fun j v hj => ?_
 rw [List.getElem?_take] at hj
 split at hj
 ·rw [List.getElem?_drop] at hj
  have := (kP vs b o).1 h (i + j) v hj
  rwa [← Nat.add_assoc] at this
 ·cases hj
theorem aWy {t : TypeId} {n : Nat} {vs : List V} {r : V} {a : Value} (h : St lim B F S bl vals H w) (hvs : RepL S bl w vs [a]) (ht : dQ P t = true) (hz : fP P t n = true) (hr : O8 n H vs = some r) :
 Quiet P S bl w r (Instr.loadAt t a) := by
 obtain ⟨p, rfl, h1⟩ := fZ hvs
 cases p <;> try (simp [O8] at hr; done)
 ·rename_i id o
  obtain ⟨cs, hcs, rfl⟩ := Option.map_eq_some_iff.1 (show (bX H id o n).map _ = some r from hr)
  obtain ⟨b, hb, rfl⟩ := h1.ptr_inv
  obtain ⟨hl, ds, a1, a2, a3⟩ := h.cells hcs hb
  have hl2 := ((aK cs ds).1 a1).1
  exact ⟨_, K8 ht hz (by omega) a2, by simp only [Rep]; exact ⟨_, rfl, a1.dis1, fun v hv => by obtain ⟨u, hu, rfl⟩ := List.mem_map.1 hv; exact V.dis1_single (a3 u hu)⟩, uB _ _⟩
 ·rename_i cs i
  simp only [O8] at hr
  split at hr
  ·rename_i hle
   cases hr
   obtain ⟨b, o, rfl, hC⟩ := h1.fp_inv
   obtain ⟨ds, a1, a2, a3⟩ := (hC.piece i n).cells
   have hl2 := ((aK _ ds).1 a1).1
   exact ⟨_, K8 ht hz (by rw [← hl2]; simp; omega) fun j c hj => (a2 j c hj).1, by simp only [Rep]; exact ⟨_, rfl, a1.dis1, fun v hv => by obtain ⟨u, hu, rfl⟩ := List.mem_map.1 hv; exact V.dis1_single (a3 u hu)⟩, uB _ _⟩
  ·cases hr
end
end Go.Abs
