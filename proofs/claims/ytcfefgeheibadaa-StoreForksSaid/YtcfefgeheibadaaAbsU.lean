/-
  Objects: new ones, what is read, what is written; fewer objects. New slices by value; appending in place.
-/
import Derived.Test.YtcfefgeheibadaaAbsT
namespace Go.Abs
open Go.RowKit (Below)
set_option linter.unusedVariables false

theorem ctips_eq {w : World} {b : Nat} : ∀ (vs : List V) (ds : List Value) (o : Nat), (∀ (j : Nat) c, ds[j]? = some c → w.cell? ⟨b, o + j, none⟩ = some c) → vs.length = ds.length → ctips w vs b o = tipsL vs ds
  | [], ds, o, _, hl => by cases ds <;> simp_all [ctips, tipsL]
  | v :: vs, [], o, _, hl => by simp at hl
  | v :: vs, d :: ds, o, h, hl => by
    have h0 := h 0 d rfl
    simp only [Nat.add_zero] at h0
    simp only [ctips, tipsL, h0, Option.getD_some]
    rw [ctips_eq vs ds (o + 1) (fun j c hj => by have := h (j + 1) c (by simpa using hj); rwa [show o + 1 + j = o + (j + 1) by omega]) (by simpa using hl)]
theorem htips_append (w : World) : ∀ (H : Heap) (bl : List Nat) (H' : Heap) (bl' : List Nat), H.length = bl.length → htips w (H ++ H') (bl ++ bl') = htips w H bl ++ htips w H' bl'
  | [], [], _, _, _ => rfl
  | [], _ :: _, _, _, h => by simp at h
  | _ :: _, [], _, _, h => by simp at h
  | cs :: H, b :: bl, H', bl', h => by simp only [List.cons_append, htips, htips_append w H bl H' bl' (by simpa using h), List.append_assoc]
theorem push_old {w : World} {o : Go.Obj} {b : Nat} (hb : b < w.heap.size) : ({ w with heap := w.heap.push o } : World).heap[b]? = w.heap[b]? := by
  show (w.heap.push o)[b]? = _
  rw [Array.getElem?_push, if_neg (by omega)]
theorem push_new {w : World} {o : Go.Obj} : ({ w with heap := w.heap.push o } : World).heap[w.heap.size]? = some o := by
  show (w.heap.push o)[w.heap.size]? = _
  rw [Array.getElem?_push, if_pos rfl]
theorem below_push {B : Nat} {w : World} (o : Go.Obj) (hB : B ≤ w.heap.size) : Below B w { w with heap := w.heap.push o } :=
  ⟨rfl, rfl, rfl, by simp, fun k hk => push_old (by omega)⟩
theorem count_zero_of {l : List Nat} {x : Nat} (h : x ∉ l) : l.count x = 0 := List.count_eq_zero.2 h

namespace St
variable {lim : Option Nat} {B : Nat} {F : List Nat} {S : Nat → Nat → Prop} {bl : List Nat} {vals : List (V × Value)} {H : Heap} {w : World}

theorem size_free (h : St lim B F S bl vals H w) : ¬ held w vals H bl w.heap.size ∧ w.heap.size ∉ F ∧ ∀ o, ¬ S w.heap.size o :=
  ⟨fun x => by have := (h.held_lt x).2; omega, fun x => by have := (h.base _ (.inl x)).2; omega,
   fun o x => by
    have := (h.stab _ o x).2
    cases hc : w.cell? ⟨w.heap.size, o, none⟩ with
    | none => rw [hc] at this; cases this
    | some v => have := lt_of_cell hc; omega⟩

/-- A new block, of which nothing is known yet. -/
theorem push (h : St lim B F S bl vals H w) (o : Go.Obj) : St lim B F S bl vals H { w with heap := w.heap.push o } :=
  h.world (by simp) (fun b hb => push_old (h.held_lt hb).2) ⟨fun _ _ x => x, fun b o x => cell_same (push_old (by
    obtain ⟨v, hv⟩ := Option.isSome_iff_exists.1 (h.stab b o x).2; exact lt_of_cell hv)) o, fun b k x => x.same (push_old x.lt)⟩ fun b o x => .inl x
theorem keeps_push (h : St lim B F S bl vals H w) (o : Go.Obj) : Keeps S w S { w with heap := w.heap.push o } :=
  ⟨fun _ _ x => x, fun b o x => cell_same (push_old (by obtain ⟨v, hv⟩ := Option.isSome_iff_exists.1 (h.stab b o x).2; exact lt_of_cell hv)) o, fun b k x => x.same (push_old x.lt)⟩

/-- **A new object.** -/
theorem newObj {cs : List V} {ds ex : List Value} (h : St lim B (F ++ blks (tipsL cs ds)) S bl vals H w) (hB : B ≤ w.heap.size) (hr : RepL S bl w cs ds) (hs : ∀ v ∈ cs, v.single = true)
    (ht : ∀ t ∈ tipsL cs ds, TipOK S w t) {carr : Array Value} {e : TypeId} (hc : carr.toList = ds ++ ex) :
    St lim B F S (bl ++ [w.heap.size]) vals (H ++ [cs]) { w with heap := w.heap.push (.cells carr e) } ∧
      Ext lim B F S bl H w S (bl ++ [w.heap.size]) (H ++ [cs]) { w with heap := w.heap.push (.cells carr e) } := by
  have h1 := h.push (.cells carr e)
  obtain ⟨hn1, hn2, hn3⟩ := h.size_free
  have hlen : cs.length = ds.length := ((RepL_iff cs ds).1 hr).1
  have hcell : ∀ (j : Nat) c, ds[j]? = some c → ({ w with heap := w.heap.push (.cells carr e) } : World).cell? ⟨w.heap.size, 0 + j, none⟩ = some c := by
    intro j c hj
    rw [cell_of push_new, Nat.zero_add, ← Array.getElem?_toList, hc, List.getElem?_append_left (List.getElem?_eq_some_iff.1 hj).1]
    exact hj
  have hct := ctips_eq (w := { w with heap := w.heap.push (.cells carr e) }) cs ds 0 hcell hlen
  have hht : htips { w with heap := w.heap.push (.cells carr e) } (H ++ [cs]) (bl ++ [w.heap.size]) = htips { w with heap := w.heap.push (.cells carr e) } H bl ++ tipsL cs ds := by
    rw [htips_append _ _ _ _ _ h.len]
    simp only [htips, hct, List.append_nil]
  have hpre : ∀ i b : Nat, bl[i]? = some b → (bl ++ [w.heap.size])[i]? = some b := fun i b hi => by
    rw [List.getElem?_append_left (List.getElem?_eq_some_iff.1 hi).1]; exact hi
  have k := h.keeps_push (.cells carr e)
  have k1 : Keeps S { w with heap := w.heap.push (.cells carr e) } S { w with heap := w.heap.push (.cells carr e) } := Keeps.refl _ _
  refine ⟨⟨?_, by simp [h.len], ?_, ?_, ?_, ?_, ?_, ?_, ?_⟩, ⟨k, fun b hb => ⟨push_old (h.base b (.inl (List.mem_append_left _ hb))).2, fun o x => x⟩, below_push _ hB, hpre, by simp, fun l hl => ⟨fun i b hi hb => push_old (h.base b (.inr (List.mem_of_getElem? hb))).2, by rw [List.take_append_of_le_length (h.refs l hl).1]⟩⟩⟩
  · exact fun p hp => Rep.mono_via k1 hpre (fun _ _ _ _ => rfl) _ _ (h1.rep p hp)
  · intro i cs' b hi hb
    by_cases hil : i < H.length
    · rw [List.getElem?_append_left hil] at hi
      rw [List.getElem?_append_left (by rw [← h.len]; exact hil)] at hb
      exact (h1.obj i cs' b hi hb).mono k1 hpre rfl
    · have hil' : i = H.length := by
        have := (List.getElem?_eq_some_iff.1 hi).1
        simp at this; omega
      subst hil'
      simp only [List.getElem?_append_right (Nat.le_refl _), Nat.sub_self, List.getElem?_cons_zero, Option.some.injEq] at hi
      rw [h.len, List.getElem?_append_right (Nat.le_refl _)] at hb
      simp only [Nat.sub_self, List.getElem?_cons_zero, Option.some.injEq] at hb
      subst hi; subst hb
      refine ⟨⟨carr, e, 0, 0, push_new, ?_, fun o _ => by omega⟩, fun j v hj => ?_⟩
      · rw [← Array.length_toList, hc, hlen]; simp
      · refine ⟨hs v (List.mem_of_getElem? hj), ?_⟩
        obtain ⟨hj1, _⟩ := List.getElem?_eq_some_iff.1 hj
        obtain ⟨c, hcj⟩ : ∃ c, ds[j]? = some c := ⟨_, List.getElem?_eq_getElem (by omega)⟩
        refine ⟨c, ?_, ?_⟩
        · have := hcell j c hcj; rwa [Nat.zero_add] at this
        · exact Rep.mono k hpre v c (V.noVia_of_single (hs v (List.mem_of_getElem? hj))) (((RepL_iff cs ds).1 hr).2 j v c hj hcj)
  · intro x
    rw [hht]
    have := h1.nodup x
    rw [ind_snoc (fun y => hn1 (.inl y))]
    simp only [List.count_append, blks, List.map_append] at this ⊢
    by_cases hx : w.heap.size = x
    · subst hx
      have a1 := count_zero_of hn2
      have a2 : ind bl w.heap.size = 0 := ind_zero fun y => hn1 (.inl y)
      have a3 : ((vtips vals).map Tp.blk).count w.heap.size = 0 := count_zero_of fun y => hn1 (.inr (.inl y))
      have a4 : ((htips { w with heap := w.heap.push (.cells carr e) } H bl).map Tp.blk).count w.heap.size = 0 := count_zero_of fun y => by
        rw [htips_same H bl fun b hb => push_old (h.base b (.inr hb)).2] at y
        exact hn1 (.inr (.inr y))
      simp only [List.count_append, blks] at a1
      simp only [beq_self_eq_true, if_true]
      omega
    · have hx' : (w.heap.size == x) = false := by simpa using hx
      simp only [hx', Bool.false_eq_true, if_false]; omega
  · intro t ht'
    rw [hht] at ht'
    rcases ht' with ht' | ht'
    · exact h1.tip t (.inl ht')
    · rcases List.mem_append.1 ht' with ht' | ht'
      · exact h1.tip t (.inr ht')
      · have hb := h.base t.blk (.inl (List.mem_append_right _ (List.mem_map.2 ⟨t, ht', rfl⟩)))
        exact ⟨(ht t ht').mono (push_old hb.2) fun _ x => x, hb.1⟩
  · intro b o x
    obtain ⟨a1, a2⟩ := h1.stab b o x
    refine ⟨fun y => ?_, a2⟩
    rcases List.mem_append.1 y with y | y
    · exact a1 y
    · simp at y; subst y; exact hn3 o x
  · intro b hb
    rcases hb with hb | hb
    · have := h.base b (.inl (List.mem_append_left _ hb)); exact ⟨this.1, by simp; omega⟩
    · rcases List.mem_append.1 hb with hb | hb
      · have := h.base b (.inr hb); exact ⟨this.1, by simp; omega⟩
      · simp at hb; subst hb; exact ⟨hB, by simp⟩
  · intro l hl
    obtain ⟨a1, a2, a3⟩ := h.refs l hl
    refine ⟨by simp; omega, fun i cs' hil hi => ?_, fun i j b hi hj hbi hbj => ?_⟩
    · rw [List.getElem?_append_left (by omega)] at hi
      exact a2 i cs' hil hi
    · have hlen' := h.len
      rw [List.getElem?_append_left (by omega)] at hbi
      by_cases hjl : j < bl.length
      · rw [List.getElem?_append_left hjl] at hbj; exact a3 i j b hi hj hbi hbj
      · have : j = bl.length := by have := (List.getElem?_eq_some_iff.1 hbj).1; simp at this; omega
        subst this
        simp at hbj
        subst hbj
        exact hn1 (.inl (List.mem_of_getElem? hbi))
  · have key : ∀ (i j b : Nat) cs' ds', i < j → (bl ++ [w.heap.size])[i]? = some b → (bl ++ [w.heap.size])[j]? = some b → (H ++ [cs])[i]? = some cs' → (H ++ [cs])[j]? = some ds' → cs' = [] ∨ ds' = [] := by
      intro i j b cs' ds' hij hbi hbj hi hj
      have hlen' := h.len
      have hjl : j < bl.length + 1 := by have := (List.getElem?_eq_some_iff.1 hbj).1; simpa using this
      rw [List.getElem?_append_left (by omega)] at hbi hi
      by_cases hj' : j < bl.length
      · rw [List.getElem?_append_left hj'] at hbj
        rw [List.getElem?_append_left (by omega)] at hj
        exact h.sep i j b cs' ds' (by omega) hbi hbj hi hj
      · have : j = bl.length := by omega
        subst this
        simp at hbj
        subst hbj
        exact absurd (.inl (List.mem_of_getElem? hbi)) hn1
    intro i j b cs' ds' hij hbi hbj hi hj
    rcases Nat.lt_or_gt_of_ne hij with q | q
    · exact key i j b cs' ds' q hbi hbj hi hj
    · exact (key j i b ds' cs' q hbj hbi hj hi).symm

/-! ### Reading -/
theorem get (h : St lim B F S bl vals H w) {id o : Nat} {v : V} (hg : hget H id o = some v) {b : Nat} (hb : bl[id]? = some b) :
    v.single = true ∧ ∃ c, w.cell? ⟨b, o, none⟩ = some c ∧ Rep S bl w v c := by
  unfold hget at hg
  obtain ⟨cs, h1, h2⟩ := Option.bind_eq_some_iff.1 hg
  exact (h.obj id cs b h1 hb).rep o v h2
theorem blk (h : St lim B F S bl vals H w) {id : Nat} (hi : id < H.length) : ∃ b, bl[id]? = some b := ⟨_, List.getElem?_eq_getElem (by rw [← h.len]; exact hi)⟩

theorem lt_of_hget {H : Heap} {id o : Nat} {v : V} (hg : hget H id o = some v) : id < H.length := by
  unfold hget at hg
  obtain ⟨cs, h1, h2⟩ := Option.bind_eq_some_iff.1 hg
  exact (List.getElem?_eq_some_iff.1 h1).1

/-! ### Fewer objects -/
mutual
theorem eqV_eq : ∀ (a b : V), eqV a b = true → a = b
  | .bool _, x, h | .int .., x, h | .str _, x, h | .ptr .., x, h | .nilp, x, h | .ar .., x, h | .nilf, x, h | .nili, x, h | .nls, x, h => by
    cases x <;> simp_all [eqV]
  | .fp c i, x, h => by
    cases x <;> simp only [eqV, Bool.and_eq_true] at h <;> try cases h
    rename_i d j k1 k2; rw [eqL_eq c d k1, Nat.eq_of_beq_eq_true k2]
  | .via i o n c, x, h => by
    cases x <;> simp only [eqV, Bool.and_eq_true] at h <;> try cases h
    rename_i j p m d k1 k2; rw [eqL_eq c d k2, Nat.eq_of_beq_eq_true k1.1.1, Nat.eq_of_beq_eq_true k1.1.2, Nat.eq_of_beq_eq_true k1.2]
  | .sl o n c, x, h => by
    cases x <;> simp only [eqV, Bool.and_eq_true, decide_eq_true_eq] at h <;> try cases h
    rename_i p m d k1 k2; rw [eqL_eq c d k2, k1.1, Nat.eq_of_beq_eq_true k1.2]
  | .fn f c, x, h => by
    cases x <;> simp only [eqV, Bool.and_eq_true] at h <;> try cases h
    rename_i g d k1 k2; rw [eqL_eq c d k2, Nat.eq_of_beq_eq_true k1]
  | .ifc t v, x, h => by
    cases x <;> simp only [eqV, Bool.and_eq_true] at h <;> try cases h
    rename_i u w k1 k2; rw [eqV_eq v w k2, Nat.eq_of_beq_eq_true k1]
  | .agg c, x, h => by
    cases x <;> simp only [eqV] at h <;> try cases h
    rename_i d; rw [eqL_eq c d h]
  | .tup c, x, h => by
    cases x <;> simp only [eqV] at h <;> try cases h
    rename_i d; rw [eqL_eq c d h]
theorem eqL_eq : ∀ (a b : List V), eqL a b = true → a = b
  | [], x, h => by cases x <;> simp_all [eqL]
  | v :: r, x, h => by
    cases x <;> simp only [eqL, Bool.and_eq_true] at h <;> try cases h
    rename_i w s k1 k2; rw [eqV_eq v w k1, eqL_eq r s k2]
end
theorem keptL_get {m : Nat} : ∀ {G H : Heap} {i : Nat} {a b : List V}, keptL m G H = true → G[i]? = some a → H[i]? = some b → a = b ∨ V.rbL m b = true
  | [], _, i, a, b, _, h, _ => by simp at h
  | _ :: _, [], i, a, b, _, _, h => by simp at h
  | g :: G, x :: H, i, a, b, h, h1, h2 => by
    simp only [keptL, Bool.and_eq_true, Bool.or_eq_true] at h
    cases i with
    | zero =>
      simp only [List.getElem?_cons_zero, Option.some.injEq] at h1 h2
      subst h1; subst h2
      exact h.1.imp (eqL_eq _ _) id
    | succ i => exact keptL_get h.2 (by simpa using h1) (by simpa using h2)
/-- All objects of a state name objects that are there. -/
theorem wf (h : St lim B F S bl vals H w) (i : Nat) (cs : List V) (hi : H[i]? = some cs) : V.rbL H.length cs = true := by
  have hil := (List.getElem?_eq_some_iff.1 hi).1
  obtain ⟨b, hb⟩ : ∃ b, bl[i]? = some b := ⟨_, List.getElem?_eq_getElem (by rw [← h.len]; exact hil)⟩
  have ho := h.obj i cs b hi hb
  refine V.rbL_iff.2 fun v hv => ?_
  obtain ⟨j, hj⟩ := List.mem_iff_getElem?.1 hv
  obtain ⟨_, c, _, hr⟩ := ho.rep j v hj
  exact Rep.rb (by rw [h.len]; exact Nat.le_refl _) v c hr
theorem kept_all {H' : Heap} {l : Nat} (hw : ∀ (i : Nat) cs, H[i]? = some cs → V.rbL H.length cs = true) (hk : keptB l H H' = true) (i : Nat) (cs : List V) (hl : l ≤ i) (hi : i < H.length) (h' : H'[i]? = some cs) : V.rbL H.length cs = true := by
  have h0 : H[i]? = some H[i] := List.getElem?_eq_getElem hi
  rcases keptL_get (i := i - l) (a := H[i]) (b := cs) hk (by rw [List.getElem?_drop, show l + (i - l) = i by omega]; exact h0) (by rw [List.getElem?_drop, show l + (i - l) = i by omega]; exact h') with e | e
  · rw [← e]; exact hw i _ h0
  · exact e
theorem htips_take (w : World) : ∀ (m : Nat) (H : Heap) (bl : List Nat), H.length = bl.length → htips w H bl = htips w (H.take m) (bl.take m) ++ htips w (H.drop m) (bl.drop m) := by
  intro m H bl h
  have := htips_append w (H.take m) (bl.take m) (H.drop m) (bl.drop m) (by simp [h])
  rwa [List.take_append_drop, List.take_append_drop] at this
theorem cut (h : St lim B F S bl vals H w) {m : Nat} (hv : ∀ p ∈ vals, p.1.rb m = true) (hl : ∃ l, lim = some l ∧ l ≤ m ∧ ∀ (i : Nat) cs, l ≤ i → i < m → H[i]? = some cs → V.rbL m cs = true) (hm : m ≤ H.length) : St lim B F S (bl.take m) vals (H.take m) w := by
  obtain ⟨l, rfl, hlm, hk⟩ := hl
  obtain ⟨r1, r2, r3⟩ := h.refs l rfl
  have hsub := htips_take w m H bl h.len
  refine ⟨fun p hp => Rep.cut _ _ (hv p hp) (h.rep p hp), by simp [h.len], ?_, fun x => ?_, ?_, fun b o x => ⟨fun y => (h.stab b o x).1 (List.mem_of_mem_take y), (h.stab b o x).2⟩,
    fun b hb => h.base b (hb.imp id List.mem_of_mem_take), ?_, fun i j b cs ds hij hbi hbj hi hj => ?_⟩
  · intro i cs b hi hb
    have him : i < m := by have := (List.getElem?_eq_some_iff.1 hi).1; simp at this; omega
    rw [List.getElem?_take, if_pos him] at hi hb
    have ho := h.obj i cs b hi hb
    refine ⟨ho.ex, fun j v hj => ?_⟩
    obtain ⟨a1, c, a2, a3⟩ := ho.rep j v hj
    have hrb : V.rbL m cs = true := by
      by_cases hil : i < l
      · exact V.rbL_mono hlm cs (r2 i cs hil hi)
      · exact hk i cs (by omega) him hi
    exact ⟨a1, c, a2, Rep.cut v c (V.rbL_iff.1 hrb v (List.mem_of_getElem? hj)) a3⟩
  · have := h.nodup x
    rw [hsub] at this
    have a := ind_take (l := bl) (m := m) (x := x)
    simp only [blks, List.map_append, List.count_append] at this ⊢
    omega
  · intro t ht
    exact h.tip t (ht.imp id fun y => by rw [hsub]; exact List.mem_append_left _ y)
  · intro l' hl'
    cases hl'
    refine ⟨by simp; omega, fun i cs hil hi => ?_, fun i j b hi hj hbi hbj => ?_⟩
    · rw [List.getElem?_take, if_pos (by omega)] at hi
      exact r2 i cs hil hi
    · have t : ∀ k, (bl.take m)[k]? = some b → bl[k]? = some b := fun k e => by
        rw [List.getElem?_take] at e
        split at e
        · exact e
        · cases e
      exact r3 i j b hi hj (t i hbi) (t j hbj)
  · have t : ∀ {α : Type} (l : List α) (k : Nat) (x : α), (l.take m)[k]? = some x → l[k]? = some x := fun l k x e => by
      rw [List.getElem?_take] at e
      split at e
      · exact e
      · cases e
    exact h.sep i j b cs ds hij (t _ _ _ hbi) (t _ _ _ hbj) (t _ _ _ hi) (t _ _ _ hj)
end St
end Go.Abs
