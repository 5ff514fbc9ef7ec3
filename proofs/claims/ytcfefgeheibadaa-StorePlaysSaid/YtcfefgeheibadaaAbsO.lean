/-
  Each operation of AbsA does what GoSem's does. First part: values alone.
-/
import Derived.Test.YtcfefgeheibadaaAbsW
namespace Go.Abs
open Go.RowKit (Below)
set_option linter.unusedVariables false
set_option linter.unusedSimpArgs false

/-! ### Constants -/
mutual
theorem okV_rep {S bl w} : ∀ (v : V) (c : Value), okV c v = true → Rep S bl w v c
  | .bool b, c, h => by
    rw [okV.eq_def] at h; dsimp only at h; simp only [Rep]
    split at h <;> simp_all
  | .int k n, c, h => by
    rw [okV.eq_def] at h; dsimp only at h; simp only [Rep]
    split at h <;> simp_all
  | .str l, c, h => by
    rw [okV.eq_def] at h; dsimp only at h; simp only [Rep]
    split at h
    · rename_i s; exact ⟨s, rfl, by simpa using h⟩
    · cases h
  | .nilp, c, h => by
    rw [okV.eq_def] at h; dsimp only at h; simp only [Rep]
    split at h <;> simp_all
  | .nilf, c, h => by
    rw [okV.eq_def] at h; dsimp only at h; simp only [Rep]
    split at h <;> simp_all
  | .nili, c, h => by
    rw [okV.eq_def] at h; dsimp only at h; simp only [Rep]
    split at h <;> simp_all
  | .nls, c, h => by
    rw [okV.eq_def] at h; dsimp only at h; simp only [Rep]
    split at h <;> simp_all
  | .sl o n cs, c, h => by
    rw [okV.eq_def] at h; dsimp only at h; simp only [Rep]
    split at h
    · simp only [Bool.and_eq_true, beq_iff_eq, List.isEmpty_iff] at h
      obtain ⟨⟨⟨rfl, rfl⟩, rfl⟩, rfl⟩ := h
      exact ⟨none, 0, rfl, Nat.le_refl _, fun _ => ⟨rfl, rfl, rfl⟩, fun ad e => by cases e⟩
    · cases h
  | .agg l, c, h => by
    rw [okV.eq_def] at h; dsimp only at h; simp only [Rep]
    split at h
    · rename_i cs
      obtain ⟨h1, h2⟩ := okVs_rep (S := S) (bl := bl) (w := w) l cs.toList h
      exact ⟨cs, rfl, h1, h2⟩
    · cases h
  | .tup l, c, h => by
    rw [okV.eq_def] at h; dsimp only at h; simp only [Rep]
    split at h
    · rename_i cs
      simp only [Bool.and_eq_true, List.isEmpty_iff] at h
      exact ⟨cs, rfl, by rw [h.1, h.2]; simp only [RepL], by rw [h.2]; simp⟩
    · cases h
  | .fn g l, c, h => by
    rw [okV.eq_def] at h; dsimp only at h; simp only [Rep]
    split at h
    · rename_i f first caps
      simp only [Bool.and_eq_true, beq_iff_eq, List.isEmpty_iff] at h
      obtain ⟨⟨⟨rfl, h1⟩, h2⟩, rfl⟩ := h
      refine ⟨caps, ?_, by rw [h2]; simp only [RepL], by simp⟩
      have : first = #[] := by cases first; simp_all
      rw [this]
    · cases h
  | .ptr .., c, h => by simp [okV] at h
  | .fp .., c, h => by simp [okV] at h
  | .via .., c, h => by simp [okV] at h
  | .ar .., c, h => by simp [okV] at h
  | .ifc .., c, h => by simp [okV] at h
theorem okVs_rep {S bl w} : ∀ (vs : List V) (cs : List Value), okVs cs vs = true → RepL S bl w vs cs ∧ ∀ v ∈ vs, v.single = true
  | [], cs, h => by simp only [okVs, List.isEmpty_iff] at h; simp [RepL, h]
  | v :: vs, [], h => by simp [okVs] at h
  | v :: vs, c :: cs, h => by
    simp only [okVs, Bool.and_eq_true] at h
    obtain ⟨⟨h1, h2⟩, h3⟩ := h
    obtain ⟨a1, a2⟩ := okVs_rep (S := S) (bl := bl) (w := w) vs cs h3
    refine ⟨by simp only [RepL]; exact ⟨c, cs, rfl, okV_rep v c h2, a1⟩, fun u hu => ?_⟩
    rcases List.mem_cons.1 hu with rfl | hu
    · exact h1
    · exact a2 u hu
end
/-- A constant holds no block. -/
theorem okV_tips1 (v : V) (c : Value) (h : okV c v = true) : tips1 v c = [] := by
  cases v <;> try rfl
  rename_i o n cs
  rw [okV.eq_def] at h; dsimp only at h
  split at h
  · cases o <;> rfl
  · cases h
theorem okVs_tipsL : ∀ (vs : List V) (cs : List Value), okVs cs vs = true → tipsL vs cs = []
  | [], cs, h => by cases cs <;> rfl
  | v :: vs, [], h => rfl
  | v :: vs, c :: cs, h => by
    simp only [okVs, Bool.and_eq_true] at h
    simp only [tipsL, okV_tips1 v c h.1.2, okVs_tipsL vs cs h.2, List.append_nil]
theorem okV_tips (v : V) (c : Value) (h : okV c v = true) : tips v c = [] := by
  cases v with
  | agg l =>
    rw [okV.eq_def] at h; dsimp only at h
    split at h
    · rename_i cs; exact okVs_tipsL l cs.toList h
    · cases h
  | tup l =>
    rw [okV.eq_def] at h; dsimp only at h
    split at h
    · rename_i cs
      simp only [Bool.and_eq_true, List.isEmpty_iff] at h
      show tipsM l cs.toList = []
      rw [h.2]; rfl
    · cases h
  | _ => exact okV_tips1 _ c h

/-! ### Types -/
section
variable {P : Program} {w : World}
theorem run_und {t : TypeId} {d : TypeDesc} (h : P.underlying t = some d) : (underlying t).run P w = .ok d w := by simp [underlying, h]
theorem run_info {t : TypeId} {i : TypeInfo} (h : P.info? t = some i) : (typeInfo t).run P w = .ok i w := by simp [typeInfo, h]
theorem run_size {t : TypeId} {n : Nat} (h : szIs P t n = true) : (Go.sizeOf t).run P w = .ok n w := by
  unfold szIs at h
  split at h
  · rename_i i hi
    simp only [beq_iff_eq] at h
    simp [Go.sizeOf, run_info hi, h]
  · cases h
theorem run_bytes {t : TypeId} {n : Nat} (h : bytesIs P t n = true) : ∃ i, (typeInfo t).run P w = .ok i w ∧ i.bytes = n := by
  unfold bytesIs at h
  split at h
  · rename_i i hi
    simp only [beq_iff_eq] at h
    exact ⟨i, run_info hi, h⟩
  · cases h
theorem run_isAgg {t : TypeId} {d : TypeDesc} (h : P.underlying t = some d) : (isAgg t).run P w = .ok (isAggB P t) w := by
  unfold isAgg isAggB
  simp only [Sem.run_bind, run_und h, h]
  cases d <;> rfl
theorem run_zero {t : TypeId} {z : List V} (h : zeroIs P t z = true) : ∃ c, (zeroValue t).run P w = .ok c w ∧ okVs c.cells.toList z = true := by
  unfold zeroIs at h
  split at h
  · rename_i c hc
    obtain ⟨i, hi, hz⟩ := Option.bind_eq_some_iff.1 hc
    exact ⟨c, by simp [zeroValue, run_info hi, hz], h⟩
  · cases h
theorem run_zero1 {t : TypeId} {z : V} (h : zeroV1 P t z = true) : ∃ c, (zeroValue t).run P w = .ok c w ∧ okV c z = true := by
  unfold zeroV1 at h
  split at h
  · rename_i c hc
    obtain ⟨i, hi, hz⟩ := Option.bind_eq_some_iff.1 hc
    exact ⟨c, by simp [zeroValue, run_info hi, hz], h⟩
  · cases h
end

/-! ### The result of an operation -/
/-- What is asked of an operation: it comes to a value, and the state is as the machine says. -/
def Good (P : Program) (lim : Option Nat) (B : Nat) (F : List Nat) (S : Nat → Nat → Prop) (bl : List Nat) (H : Heap) (w : World) (r : V) (H' : Heap) (x : Result Next) : Prop :=
  ∃ c w' S' bl', (x = .ok (.value c) w' ∨ (x = .ok .skip w' ∧ c = undef)) ∧ St lim B F S' bl' [(r, c)] H' w' ∧ Ext lim B F S bl H w S' bl' H' w'

section
variable {P : Program} {lim : Option Nat} {B : Nat} {F : List Nat} {S : Nat → Nat → Prop} {bl : List Nat} {vals : List (V × Value)} {H : Heap} {w : World}

theorem St.nil (h : St lim B F S bl vals H w) : St lim B F S bl [] H w := h.sub (fun _ hp => by cases hp) (fun _ ht => by cases ht) fun x => by simp [vtips, blks]
/-- A value that names no block, the world as it was. -/
theorem good0 {r : V} {c : Value} (h : St lim B F S bl vals H w) (hr : Rep S bl w r c) (ht : tips r c = []) : Good P lim B F S bl H w r H (.ok (.value c) w) :=
  ⟨c, w, S, bl, .inl rfl, h.nil.add0 hr ht, Ext.refl _ _ _ _ _ _ _⟩
theorem rep_int (S bl w) (k : IntKind) (n : Int) : Rep S bl w (.int k n) (.int k n) := by simp only [Rep]
theorem rep_bool (S bl w) (b : Bool) : Rep S bl w (.bool b) (.bool b) := by simp only [Rep]
theorem rep_str (S bl w) (a : ByteArray) : Rep S bl w (.str a.data.toList) (.string a) := by simp only [Rep]; exact ⟨a, rfl, rfl⟩
theorem rep_str' (S bl w) (l : List UInt8) : Rep S bl w (.str l) (.string ⟨l.toArray⟩) := by simp only [Rep]; exact ⟨_, rfl, rfl⟩

theorem ok_iop {op : BinOp} {k : IntKind} {a b : Int} {r : V} (h : iop op k a b = some r) : ∃ c, (binOp op 0 (.int k a) (.int k b)).run P w = .ok c w ∧ Rep S bl w r c ∧ tips r c = [] := by
  cases op <;> simp only [iop] at h
  case add | sub | mul => cases h; exact ⟨_, by simp only [binOp, ne_eq, not_true_eq_false, if_false]; rfl, rep_int .., rfl⟩
  case quo | rem =>
    split at h
    · cases h
    · rename_i hb; cases h; exact ⟨_, by simp [binOp, Op.intDiv, hb], rep_int .., rfl⟩
  case and | or | xor | andNot => simp only [bits, Option.some.injEq] at h; subst h; exact ⟨_, by simp only [binOp, ne_eq, not_true_eq_false, if_false]; rfl, rep_int .., rfl⟩
  case eql | neq | lss | leq | gtr | geq => cases h; exact ⟨_, by simp only [binOp, ne_eq, not_true_eq_false, if_false]; rfl, rep_bool .., rfl⟩
  case shl | shr =>
    split at h
    · cases h
    · rename_i hb; cases h; exact ⟨_, by simp only [binOp, Op.shift, if_neg hb]; rfl, rep_int .., rfl⟩
end
end Go.Abs
