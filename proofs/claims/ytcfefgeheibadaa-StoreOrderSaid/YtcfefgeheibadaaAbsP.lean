/-
  Each operation of AbsA does what GoSem's does: those that leave the world alone.
-/
import Derived.Test.YtcfefgeheibadaaAbsO
import Derived.Laws.Strings
import Derived.Laws.BytesString
namespace Go.Abs
open Go.RowKit (Below)
set_option linter.unusedVariables false
set_option linter.unusedSimpArgs false

/-- It comes to a value that says r, and the world is as it was. -/
def Quiet (P : Program) (S : Nat → Nat → Prop) (bl : List Nat) (w : World) (r : V) (s : Sem Value) : Prop :=
  ∃ c, s.run P w = .ok c w ∧ Rep S bl w r c ∧ tips r c = []

section
variable {P : Program} {S : Nat → Nat → Prop} {bl : List Nat} {w : World}

theorem Rep.int_inv {k : IntKind} {n : Int} {c : Value} (h : Rep S bl w (.int k n) c) : c = .int k n := by simpa only [Rep] using h
theorem Rep.bool_inv {b : Bool} {c : Value} (h : Rep S bl w (.bool b) c) : c = .bool b := by simpa only [Rep] using h
theorem Rep.str_inv {l : List UInt8} {c : Value} (h : Rep S bl w (.str l) c) : c = .string ⟨l.toArray⟩ := by
  simp only [Rep] at h
  obtain ⟨a, rfl, h2⟩ := h
  subst h2
  cases a
  simp
theorem Rep.ptr_inv {id off : Nat} {c : Value} (h : Rep S bl w (.ptr id off) c) : ∃ b, bl[id]? = some b ∧ c = .pointer (some ⟨b, off, none⟩) := by simpa only [Rep] using h
theorem Rep.fp_inv {cs : List V} {i : Nat} {c : Value} (h : Rep S bl w (.fp cs i) c) : ∃ b o, c = .pointer (some ⟨b, o + i, none⟩) ∧ RepC S bl w cs b o := by simpa only [Rep] using h
theorem Rep.agg_inv {cs : List V} {c : Value} (h : Rep S bl w (.agg cs) c) : ∃ a, c = .agg a ∧ RepL S bl w cs a.toList ∧ ∀ v ∈ cs, v.single = true := by simpa only [Rep] using h

theorem eqGuard_num {op : BinOp} {t : TypeId} {x y : Operand} {a b : Value} (ha : a ≠ .nilIface) (hb : ∀ u, a ≠ .agg u) : (eqGuard op t x y a b).run P w = .ok () w := by
  cases a <;> first | exact absurd rfl ha | exact absurd rfl (hb _) | (cases op <;> rfl)

/-! '==' of values that are no numbers and no texts. -/
def isNI : Value → Bool
  | .nilIface => true
  | _ => false
theorem run_eq_bool {t : TypeId} {p q : Bool} (hd : P.underlying t = some .bool) : (Op.equal t (.bool p) (.bool q)).run P w = .ok (p == q) w := by
  show (Op.equalIn (9999 + 1) t _ _).run P w = _
  rw [Op.equalIn]
  simp only [Sem.run_bind, run_und hd, Result.andThen_ok, Sem.run_pure]
theorem run_eq_nilp {t e : TypeId} {q : Option Addr} (hd : P.underlying t = some (.pointer e)) : (Op.equal t (.pointer none) (.pointer q)).run P w = .ok q.isNone w := by
  show (Op.equalIn (9999 + 1) t _ _).run P w = _
  rw [Op.equalIn]
  simp only [Sem.run_bind, run_und hd, Result.andThen_ok, Sem.run_pure]
theorem run_eq_pnil {t e : TypeId} {q : Option Addr} (hd : P.underlying t = some (.pointer e)) : (Op.equal t (.pointer q) (.pointer none)).run P w = .ok q.isNone w := by
  show (Op.equalIn (9999 + 1) t _ _).run P w = _
  rw [Op.equalIn]
  cases q <;> simp only [Sem.run_bind, run_und hd, Result.andThen_ok, Sem.run_pure] <;> rfl
theorem run_eq_nili {t : TypeId} {ms} {c : Value} (hd : P.underlying t = some (.interface ms)) (hc : c = .nilIface ∨ ∃ u v, c = .iface u v) : (Op.equal t .nilIface c).run P w = .ok (isNI c) w := by
  show (Op.equalIn (9999 + 1) t _ _).run P w = _
  rw [Op.equalIn]
  rcases hc with rfl | ⟨u, v, rfl⟩ <;> simp only [Sem.run_bind, run_und hd, Result.andThen_ok, Sem.run_pure, isNI]
theorem run_eq_inil {t : TypeId} {ms} {c : Value} (hd : P.underlying t = some (.interface ms)) (hc : c = .nilIface ∨ ∃ u v, c = .iface u v) : (Op.equal t c .nilIface).run P w = .ok (isNI c) w := by
  show (Op.equalIn (9999 + 1) t _ _).run P w = _
  rw [Op.equalIn]
  rcases hc with rfl | ⟨u, v, rfl⟩ <;> simp only [Sem.run_bind, run_und hd, Result.andThen_ok, Sem.run_pure, isNI]

theorem binOp_int_t (op : BinOp) (t u : TypeId) (k j : IntKind) (a b : Int) : binOp op t (.int k a) (.int j b) = binOp op u (.int k a) (.int j b) := by cases op <;> rfl
theorem shift_k (op : BinOp) (h : op = .shl ∨ op = .shr) (t : TypeId) (k j : IntKind) (a b : Int) : binOp op t (.int k a) (.int j b) = binOp op t (.int k a) (.int k b) := by
  rcases h with rfl | rfl <;> rfl

theorem q_bin {op : BinOp} {t : TypeId} {x y : Operand} {u v r : V} {a b : Value} (hu : Rep S bl w u a) (hv : Rep S bl w v b) (h : bin op u v = some r) :
    Quiet P S bl w r (do eqGuard op t x y a b; binOp op t a b) := by
  cases u <;> try (simp [bin] at h; done)
  · rename_i k n
    cases v <;> try (simp [bin] at h; done)
    rename_i j m
    obtain rfl := hu.int_inv
    obtain rfl := hv.int_inv
    have hg := eqGuard_num (P := P) (w := w) (op := op) (t := t) (x := x) (y := y) (a := .int k n) (b := .int j m) (by simp) (by simp)
    have key : iop op k n m = some r → (op = .shl ∨ op = .shr ∨ k = j) → Quiet P S bl w r (do eqGuard op t x y (.int k n) (.int j m); binOp op t (.int k n) (.int j m)) := by
      intro h hk
      obtain ⟨c, h1, h2, h3⟩ := ok_iop (P := P) (S := S) (bl := bl) (w := w) h
      refine ⟨c, ?_, h2, h3⟩
      rw [binOp_int_t op t 0]
      have : binOp op 0 (.int k n) (.int j m) = binOp op 0 (.int k n) (.int k m) := by
        rcases hk with hk | hk | rfl
        · exact shift_k op (.inl hk) 0 k j n m
        · exact shift_k op (.inr hk) 0 k j n m
        · rfl
      rw [this]
      simp only [Sem.run_bind, hg, Result.andThen_ok, h1]
    cases op <;> simp only [bin] at h
    case shl => exact key h (.inl rfl)
    case shr => exact key h (.inr (.inl rfl))
    all_goals
      split at h
      · rename_i hk; exact key h (.inr (.inr hk))
      · cases h
  · rename_i s
    cases v <;> try (simp [bin] at h; done)
    rename_i s'
    obtain rfl := hu.str_inv
    obtain rfl := hv.str_inv
    have hg := eqGuard_num (P := P) (w := w) (op := op) (t := t) (x := x) (y := y) (a := .string ⟨s.toArray⟩) (b := .string ⟨s'.toArray⟩) (by simp) (by simp)
    cases op <;> simp only [bin] at h <;> try cases h
    · split at h
      · cases h
      · rename_i hs
        cases h
        refine ⟨.string (⟨s.toArray⟩ ++ ⟨s'.toArray⟩), ?_, ?_, rfl⟩
        · simp only [Sem.run_bind, hg, Result.andThen_ok, binOp, Op.stringOp, Sem.run_ite]
          rw [if_neg]
          · rfl
          · simpa [ByteArray.size, IntKind.max, IntKind.signed, IntKind.bits] using hs
        · simp only [Rep]
          exact ⟨_, rfl, by simp⟩
    · refine ⟨.bool (s == s'), ?_, rep_bool .., rfl⟩
      simp [hg, binOp, Op.stringOp, ByteArray.toList_eq]
    · refine ⟨.bool !(s == s'), ?_, rep_bool .., rfl⟩
      simp [hg, binOp, Op.stringOp, ByteArray.toList_eq]

theorem q_beq {op : BinOp} {neg : Bool} {t : TypeId} {x y : Operand} {r : V} {vs : List V} {a b : Value} (hvs : RepL S bl w vs [a, b]) (ho : op = .eql ∧ neg = false ∨ op = .neq ∧ neg = true)
    (ht : P.underlying t = some .bool) (h : aBeq neg vs = some r) : Quiet P S bl w r (do eqGuard op t x y a b; binOp op t a b) := by
  unfold aBeq at h
  split at h
  · rename_i p q
    cases h
    simp only [RepL] at hvs
    obtain ⟨_, _, e1, h1, _, _, e2, h2, e3⟩ := hvs
    simp only [List.cons.injEq] at e1
    obtain ⟨rfl, rfl⟩ := e1
    simp only [List.cons.injEq] at e2
    obtain ⟨rfl, _⟩ := e2
    obtain rfl := h1.bool_inv
    obtain rfl := h2.bool_inv
    have hg := eqGuard_num (P := P) (w := w) (op := op) (t := t) (x := x) (y := y) (a := .bool p) (b := .bool q) (by simp) (by simp)
    refine ⟨.bool (neg != (p == q)), ?_, rep_bool .., rfl⟩
    have he := run_eq_bool (P := P) (w := w) (p := p) (q := q) ht
    rcases ho with ⟨rfl, rfl⟩ | ⟨rfl, rfl⟩
    · simp only [Sem.run_bind, hg, Result.andThen_ok, binOp, he, Sem.run_pure]; simp
    · simp only [Sem.run_bind, hg, Result.andThen_ok, binOp, he, Sem.run_pure]; simp
  · cases h

theorem two_inv {vs : List V} {a b : Value} (h : RepL S bl w vs [a, b]) : ∃ p q, vs = [p, q] ∧ Rep S bl w p a ∧ Rep S bl w q b := by
  match vs, h with
  | [], h => simp [RepL] at h
  | [p], h => simp [RepL] at h
  | [p, q], h =>
    simp only [RepL] at h
    obtain ⟨_, _, e1, h1, _, _, e2, h2, e3⟩ := h
    simp only [List.cons.injEq] at e1
    obtain ⟨rfl, rfl⟩ := e1
    simp only [List.cons.injEq] at e2
    obtain ⟨rfl, _⟩ := e2
    exact ⟨p, q, rfl, h1, h2⟩
  | p :: q :: r :: s, h =>
    simp only [RepL] at h
    obtain ⟨_, _, e1, h1, _, _, e2, h2, _, _, e3, _⟩ := h
    simp only [List.cons.injEq] at e1
    obtain ⟨rfl, rfl⟩ := e1
    simp only [List.cons.injEq] at e2
    obtain ⟨rfl, rfl⟩ := e2
    simp at e3
theorem one_inv {vs : List V} {a : Value} (h : RepL S bl w vs [a]) : ∃ p, vs = [p] ∧ Rep S bl w p a := by
  match vs, h with
  | [], h => simp [RepL] at h
  | [p], h =>
    simp only [RepL] at h
    obtain ⟨_, _, e1, h1, e2⟩ := h
    simp only [List.cons.injEq] at e1
    obtain ⟨rfl, rfl⟩ := e1
    exact ⟨p, rfl, h1⟩
  | p :: q :: s, h =>
    simp only [RepL] at h
    obtain ⟨_, _, e1, h1, _, _, e2, _⟩ := h
    simp only [List.cons.injEq] at e1
    obtain ⟨rfl, rfl⟩ := e1
    simp at e2

theorem isNilP_rep {v : V} {c : Value} {b : Bool} (h : Rep S bl w v c) (hb : isNilP v = some b) : ∃ q : Option Addr, c = .pointer q ∧ q.isNone = b := by
  cases v <;> simp only [isNilP] at hb <;> try cases hb
  · obtain ⟨b, _, rfl⟩ := h.ptr_inv; exact ⟨_, rfl, rfl⟩
  · simp only [Rep] at h; exact ⟨none, h, rfl⟩
  · obtain ⟨b, o, rfl, _⟩ := h.fp_inv; exact ⟨_, rfl, rfl⟩
theorem isNilI_rep {v : V} {c : Value} {b : Bool} (h : Rep S bl w v c) (hb : isNilI v = some b) : (c = .nilIface ∨ ∃ u v, c = .iface u v) ∧ (isNI c) = b := by
  cases v <;> simp only [isNilI] at hb <;> try cases hb
  · simp only [Rep] at h; obtain ⟨u, rfl, _⟩ := h; exact ⟨.inr ⟨_, _, rfl⟩, rfl⟩
  · simp only [Rep] at h; subst h; exact ⟨.inl rfl, rfl⟩
theorem nilEq_inv {x y : Option Bool} {b : Bool} (h : nilEq x y = some b) : (x = some true ∧ y = some b) ∨ (x = some b ∧ y = some true) := by
  unfold nilEq at h
  split at h <;> first | (cases h; simp) | cases h

theorem q_peq {op : BinOp} {neg : Bool} {t e : TypeId} {x y : Operand} {r : V} {vs : List V} {a b : Value} (hvs : RepL S bl w vs [a, b]) (ho : op = .eql ∧ neg = false ∨ op = .neq ∧ neg = true)
    (ht : P.underlying t = some (.pointer e)) (h : aPeq neg vs = some r) : Quiet P S bl w r (do eqGuard op t x y a b; binOp op t a b) := by
  obtain ⟨p, q, rfl, h1, h2⟩ := two_inv hvs
  simp only [aPeq, Option.map_eq_some_iff] at h
  obtain ⟨d, hd, rfl⟩ := h
  refine ⟨.bool (neg != d), ?_, rep_bool .., rfl⟩
  have key : ∀ (u v : Option Addr), a = .pointer u → b = .pointer v → (Op.equal t a b).run P w = .ok d w → (do eqGuard op t x y a b; binOp op t a b : Sem Value).run P w = .ok (.bool (neg != d)) w := by
    rintro u v rfl rfl he
    have hg := eqGuard_num (P := P) (w := w) (op := op) (t := t) (x := x) (y := y) (a := .pointer u) (b := .pointer v) (by simp) (by simp)
    rcases ho with ⟨rfl, rfl⟩ | ⟨rfl, rfl⟩
    · simp only [Sem.run_bind, hg, Result.andThen_ok, binOp, he, Sem.run_pure]; simp
    · simp only [Sem.run_bind, hg, Result.andThen_ok, binOp, he, Sem.run_pure]; simp
  rcases nilEq_inv hd with ⟨e1, e2⟩ | ⟨e1, e2⟩
  · obtain ⟨u, rfl, hu⟩ := isNilP_rep h1 e1
    obtain ⟨v, rfl, hv⟩ := isNilP_rep h2 e2
    refine key u v rfl rfl ?_
    have : u = none := by simpa using hu
    subst this
    rw [run_eq_nilp ht, hv]
  · obtain ⟨u, rfl, hu⟩ := isNilP_rep h1 e1
    obtain ⟨v, rfl, hv⟩ := isNilP_rep h2 e2
    refine key u v rfl rfl ?_
    have : v = none := by simpa using hv
    subst this
    rw [run_eq_pnil ht, hu]

theorem q_ieq {op : BinOp} {neg : Bool} {t : TypeId} {ms} {x y : Operand} {r : V} {vs : List V} {a b : Value} (hvs : RepL S bl w vs [a, b]) (ho : op = .eql ∧ neg = false ∨ op = .neq ∧ neg = true)
    (ht : P.underlying t = some (.interface ms)) (hc : (match x, y with | .const _, _ => true | _, .const _ => true | _, _ => false) = true) (h : aIeq neg vs = some r) : Quiet P S bl w r (do eqGuard op t x y a b; binOp op t a b) := by
  obtain ⟨p, q, rfl, h1, h2⟩ := two_inv hvs
  simp only [aIeq, Option.map_eq_some_iff] at h
  obtain ⟨d, hd, rfl⟩ := h
  refine ⟨.bool (neg != d), ?_, rep_bool .., rfl⟩
  have key : (a = .nilIface ∨ ∃ u v, a = .iface u v) → (b = .nilIface ∨ ∃ u v, b = .iface u v) → (Op.equal t a b).run P w = .ok d w → (do eqGuard op t x y a b; binOp op t a b : Sem Value).run P w = .ok (.bool (neg != d)) w := by
    intro ha hb he
    have hg : (eqGuard op t x y a b).run P w = .ok () w := by
      rcases ha with rfl | ⟨u, v, rfl⟩
      · rcases hb with rfl | ⟨u, v, rfl⟩
        · unfold eqGuard
          rcases ho with ⟨rfl, rfl⟩ | ⟨rfl, rfl⟩ <;> (cases x <;> cases y <;> first | rfl | cases hc)
        · cases op <;> rfl
      · exact eqGuard_num (by simp) (by simp)
    have hb2 : (binOp op t a b).run P w = .ok (.bool (neg != d)) w := by
      rcases ha with rfl | ⟨u, v, rfl⟩ <;> rcases hb with rfl | ⟨u', v', rfl⟩ <;> rcases ho with ⟨rfl, rfl⟩ | ⟨rfl, rfl⟩ <;> simp only [binOp, Sem.run_bind, he, Result.andThen_ok, Sem.run_pure] <;> simp
    simp only [Sem.run_bind, hg, Result.andThen_ok, hb2]
  rcases nilEq_inv hd with ⟨e1, e2⟩ | ⟨e1, e2⟩
  · obtain ⟨a1, a2⟩ := isNilI_rep h1 e1
    obtain ⟨b1, b2⟩ := isNilI_rep h2 e2
    have : a = .nilIface := by rcases a1 with rfl | ⟨u, v, rfl⟩ <;> simp_all [isNI]
    subst this
    exact key a1 b1 (by rw [run_eq_nili ht b1, b2])
  · obtain ⟨a1, a2⟩ := isNilI_rep h1 e1
    obtain ⟨b1, b2⟩ := isNilI_rep h2 e2
    have : b = .nilIface := by rcases b1 with rfl | ⟨u, v, rfl⟩ <;> simp_all [isNI]
    subst this
    exact key a1 b1 (by rw [run_eq_inil ht a1, a2])

theorem q_un {op : UnOp} {u r : V} {a : Value} (hu : Rep S bl w u a) (h : un op u = some r) : Quiet P S bl w r (Op.unary op a) := by
  cases u <;> cases op <;> simp only [un] at h <;> try cases h
  · obtain rfl := hu.bool_inv; exact ⟨_, rfl, rep_bool .., rfl⟩
  · obtain rfl := hu.int_inv; exact ⟨_, rfl, rep_int .., rfl⟩
  · obtain rfl := hu.int_inv; exact ⟨_, rfl, rep_int .., rfl⟩
end
end Go.Abs
