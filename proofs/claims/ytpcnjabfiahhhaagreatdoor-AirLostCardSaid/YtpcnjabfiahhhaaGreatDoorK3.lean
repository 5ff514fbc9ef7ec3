/- A part of the proof of RowAirFits, RowAirHeard, RowAirOrder, RowAirLost: lemmas alone, without conditions. -/
import Derived.Test.YtpcnjabfiahhhaaGreatDoorK2
set_option linter.all false
namespace Go.Abs
open Go.RowKit (Below)
set_option linter.unusedVariables false
theorem E8 {w : World} {b : Nat} : ∀ (vs : List V) (ds : List Value) (o : Nat), (∀ (j : Nat) c, ds[j]? = some c → w.cell? ⟨b, o + j, none⟩ = some c) → vs.length = ds.length → iT w vs b o = aT vs ds
 | [], ds, o, _, hl => by cases ds <;> simp_all [iT, aT]
 | v :: vs, [], o, _, hl => by simp at hl
 | v :: vs, d :: ds, o, h, hl => by
   have h0 := h 0 d rfl
   simp only [Nat.add_zero] at h0
   simp only [iT, aT, h0, Option.getD_some]
   rw [E8 vs ds (o + 1) (fun j c hj => by have := h (j + 1) c (by simpa using hj); rwa [show o + 1 + j = o + (j + 1) by omega]) (by simpa using hl)]
theorem eY (w : World) : ∀ (H : aB) (bl : List Nat) (H' : aB) (bl' : List Nat), H.length = bl.length → aY w (H ++ H') (bl ++ bl') = aY w H bl ++ aY w H' bl'
 | [], [], _, _, _ => rfl
 | [], _ :: _, _, _, h => by simp at h
 | _ :: _, [], _, _, h => by simp at h
 | cs :: H, b :: bl, H', bl', h => by simp only [List.cons_append, aY, eY w H bl H' bl' (by simpa using h), List.append_assoc]
theorem gC {w : World} {o : Go.Obj} {b : Nat} (hb : b < w.heap.size) : ({ w with heap := w.heap.push o } : World).heap[b]? = w.heap[b]? := by
 show (w.heap.push o)[b]? = _
 rw [Array.getElem?_push, if_neg (by omega)]
theorem sV {w : World} {o : Go.Obj} : ({ w with heap := w.heap.push o } : World).heap[w.heap.size]? = some o := by
 show (w.heap.push o)[w.heap.size]? = _
 rw [Array.getElem?_push, if_pos rfl]
theorem aAb {B : Nat} {w : World} (o : Go.Obj) (hB : B ≤ w.heap.size) : Below B w { w with heap := w.heap.push o } :=
 ⟨rfl, rfl, rfl, by simp, fun k hk => gC (by omega)⟩
theorem gM {l : List Nat} {x : Nat} (h : x ∉ l) : l.count x = 0 := List.count_eq_zero.2 h
namespace St
variable {lim : Option Nat} {B : Nat} {F : List Nat} {S : Nat → Nat → Prop} {bl : List Nat} {vals : List (V × Value)} {H : aB} {w : World}
theorem size_free (h : St lim B F S bl vals H w) : ¬ held w vals H bl w.heap.size ∧ w.heap.size ∉ F ∧ ∀ o, ¬ S w.heap.size o :=
 ⟨fun x => by have := (h.held_lt x).2; omega, fun x => by have := (h.base _ (.inl x)).2; omega,
  fun o x => by
   have := (h.stab _ o x).2
   cases hc : w.cell? ⟨w.heap.size, o, none⟩ with
   | none => rw [hc] at this; cases this
   | some v => have := u6 hc; omega⟩
theorem push (h : St lim B F S bl vals H w) (o : Go.Obj) : St lim B F S bl vals H { w with heap := w.heap.push o } :=
 h.world (by simp) (fun b hb => gC (h.held_lt hb).2) ⟨fun _ _ x => x, fun b o x => jH (gC (by
  obtain ⟨v, hv⟩ := Option.isSome_iff_exists.1 (h.stab b o x).2; exact u6 hv)) o, fun b k x => x.same (gC x.lt)⟩ fun b o x => .inl x
theorem keeps_push (h : St lim B F S bl vals H w) (o : Go.Obj) : Keeps S w S { w with heap := w.heap.push o } :=
 ⟨fun _ _ x => x, fun b o x => jH (gC (by obtain ⟨v, hv⟩ := Option.isSome_iff_exists.1 (h.stab b o x).2; exact u6 hv)) o, fun b k x => x.same (gC x.lt)⟩
theorem newObj {cs : List V} {ds ex : List Value} (h : St lim B (F ++ aS (aT cs ds)) S bl vals H w) (hB : B ≤ w.heap.size) (hr : RepL S bl w cs ds) (hs : ∀ v ∈ cs, v.single = true)
 (ht : ∀ t ∈ aT cs ds, TipOK S w t) {carr : Array Value} {e : TypeId} (hc : carr.toList = ds ++ ex) :
 St lim B F S (bl ++ [w.heap.size]) vals (H ++ [cs]) { w with heap := w.heap.push (.cells carr e) } ∧
  Ext lim B F S bl H w S (bl ++ [w.heap.size]) (H ++ [cs]) { w with heap := w.heap.push (.cells carr e) } := by
 have h1 := h.push (.cells carr e)
 obtain ⟨hn1, hn2, hn3⟩ := h.size_free
 have hlen : cs.length = ds.length := ((aK cs ds).1 hr).1
 have hcell : ∀ (j : Nat) c, ds[j]? = some c → ({ w with heap := w.heap.push (.cells carr e) } : World).cell? ⟨w.heap.size, 0 + j, none⟩ = some c := by
  intro j c hj
  rw [lQ sV, Nat.zero_add, ← Array.getElem?_toList, hc, List.getElem?_append_left (List.getElem?_eq_some_iff.1 hj).1]
  exact hj
 have hct := E8 (w := { w with heap := w.heap.push (.cells carr e) }) cs ds 0 hcell hlen
 have hht : aY { w with heap := w.heap.push (.cells carr e) } (H ++ [cs]) (bl ++ [w.heap.size]) = aY { w with heap := w.heap.push (.cells carr e) } H bl ++ aT cs ds := by
  rw [eY _ _ _ _ _ h.len]
  simp only [aY, hct, List.append_nil]
 have hpre : ∀ i b : Nat, bl[i]? = some b → (bl ++ [w.heap.size])[i]? = some b := fun i b hi => by
  rw [List.getElem?_append_left (List.getElem?_eq_some_iff.1 hi).1]; exact hi
 have k := h.keeps_push (.cells carr e)
 have k1 : Keeps S { w with heap := w.heap.push (.cells carr e) } S { w with heap := w.heap.push (.cells carr e) } := Keeps.refl _ _
 refine ⟨⟨?_, by simp [h.len], ?_, ?_, ?_, ?_, ?_, ?_, ?_⟩, ⟨k, fun b hb => ⟨gC (h.base b (.inl (List.mem_append_left _ hb))).2, fun o x => x⟩, aAb _ hB, hpre, by simp, fun l hl => ⟨fun i b hi hb => gC (h.base b (.inr (List.mem_of_getElem? hb))).2, by rw [List.take_append_of_le_length (h.refs l hl).1]⟩⟩⟩
 ·exact fun p hp => Rep.mono_via k1 hpre (fun _ _ _ _ => rfl) _ _ (h1.rep p hp)
 ·intro i cs' b hi hb
  by_cases hil : i < H.length
  ·rw [List.getElem?_append_left hil] at hi
   rw [List.getElem?_append_left (by rw [← h.len]; exact hil)] at hb
   exact (h1.obj i cs' b hi hb).mono k1 hpre rfl
  ·have hil' : i = H.length := by
    have := (List.getElem?_eq_some_iff.1 hi).1
    simp at this; omega
   subst hil'
   simp only [List.getElem?_append_right (Nat.le_refl _), Nat.sub_self, List.getElem?_cons_zero, Option.some.injEq] at hi
   rw [h.len, List.getElem?_append_right (Nat.le_refl _)] at hb
   simp only [Nat.sub_self, List.getElem?_cons_zero, Option.some.injEq] at hb
   subst hi; subst hb
   refine ⟨⟨carr, e, 0, 0, sV, ?_, fun o _ => by omega⟩, fun j v hj => ?_⟩
   ·rw [← Array.length_toList, hc, hlen]; simp
   ·refine ⟨hs v (List.mem_of_getElem? hj), ?_⟩
    obtain ⟨hj1, _⟩ := List.getElem?_eq_some_iff.1 hj
    obtain ⟨c, hcj⟩ : ∃ c, ds[j]? = some c := ⟨_, List.getElem?_eq_getElem (by omega)⟩
    refine ⟨c, ?_, ?_⟩
    ·have := hcell j c hcj; rwa [Nat.zero_add] at this
    ·exact Rep.mono k hpre v c (V.noVia_of_single (hs v (List.mem_of_getElem? hj))) (((aK cs ds).1 hr).2 j v c hj hcj)
 ·intro x
  rw [hht]
  have := h1.nodup x
  rw [aM2 (fun y => hn1 (.inl y))]
  simp only [List.count_append, aS, List.map_append] at this ⊢
  by_cases hx : w.heap.size = x
  ·subst hx
   have a1 := gM hn2
   have a2 : ind bl w.heap.size = 0 := gV fun y => hn1 (.inl y)
   have a3 : ((aH vals).map Tp.blk).count w.heap.size = 0 := gM fun y => hn1 (.inr (.inl y))
   have a4 : ((aY { w with heap := w.heap.push (.cells carr e) } H bl).map Tp.blk).count w.heap.size = 0 := gM fun y => by
    rw [pH H bl fun b hb => gC (h.base b (.inr hb)).2] at y
    exact hn1 (.inr (.inr y))
   simp only [List.count_append, aS] at a1
   simp only [beq_self_eq_true, if_true]
   omega
  ·have hx' : (w.heap.size == x) = false := by simpa using hx
   simp only [hx', Bool.false_eq_true, if_false]; omega
 ·intro t ht'
  rw [hht] at ht'
  rcases ht' with ht' | ht'
  ·exact h1.tip t (.inl ht')
  ·rcases List.mem_append.1 ht' with ht' | ht'
   ·exact h1.tip t (.inr ht')
   ·have hb := h.base t.blk (.inl (List.mem_append_right _ (List.mem_map.2 ⟨t, ht', rfl⟩)))
    exact ⟨(ht t ht').mono (gC hb.2) fun _ x => x, hb.1⟩
 ·intro b o x
  obtain ⟨a1, a2⟩ := h1.stab b o x
  refine ⟨fun y => ?_, a2⟩
  rcases List.mem_append.1 y with y | y
  ·exact a1 y
  ·simp at y; subst y; exact hn3 o x
 ·intro b hb
  rcases hb with hb | hb
  ·have := h.base b (.inl (List.mem_append_left _ hb)); exact ⟨this.1, by simp; omega⟩
  ·rcases List.mem_append.1 hb with hb | hb
   ·have := h.base b (.inr hb); exact ⟨this.1, by simp; omega⟩
   ·simp at hb; subst hb; exact ⟨hB, by simp⟩
 ·intro l hl
  obtain ⟨a1, a2, a3⟩ := h.refs l hl
  refine ⟨by simp; omega, fun i cs' hil hi => ?_, fun i j b hi hj hbi hbj => ?_⟩
  ·rw [List.getElem?_append_left (by omega)] at hi
   exact a2 i cs' hil hi
  ·have hlen' := h.len
   rw [List.getElem?_append_left (by omega)] at hbi
   by_cases hjl : j < bl.length
   ·rw [List.getElem?_append_left hjl] at hbj; exact a3 i j b hi hj hbi hbj
   ·have : j = bl.length := by have := (List.getElem?_eq_some_iff.1 hbj).1; simp at this; omega
    subst this
    simp at hbj
    subst hbj
    exact hn1 (.inl (List.mem_of_getElem? hbi))
 ·have key : ∀ (i j b : Nat) cs' ds', i < j → (bl ++ [w.heap.size])[i]? = some b → (bl ++ [w.heap.size])[j]? = some b → (H ++ [cs])[i]? = some cs' → (H ++ [cs])[j]? = some ds' → cs' = [] ∨ ds' = [] := by
   intro i j b cs' ds' hij hbi hbj hi hj
   have hlen' := h.len
   have hjl : j < bl.length + 1 := by have := (List.getElem?_eq_some_iff.1 hbj).1; simpa using this
   rw [List.getElem?_append_left (by omega)] at hbi hi
   by_cases hj' : j < bl.length
   ·rw [List.getElem?_append_left hj'] at hbj
    rw [List.getElem?_append_left (by omega)] at hj
    exact h.sep i j b cs' ds' (by omega) hbi hbj hi hj
   ·have : j = bl.length := by omega
    subst this
    simp at hbj
    subst hbj
    exact absurd (.inl (List.mem_of_getElem? hbi)) hn1
  intro i j b cs' ds' hij hbi hbj hi hj
  rcases Nat.lt_or_gt_of_ne hij with q | q
  ·exact key i j b cs' ds' q hbi hbj hi hj
  ·exact (key j i b ds' cs' q hbj hbi hj hi).symm
theorem get (h : St lim B F S bl vals H w) {id o : Nat} {v : V} (hg : rM H id o = some v) {b : Nat} (hb : bl[id]? = some b) :
 v.single = true ∧ ∃ c, w.cell? ⟨b, o, none⟩ = some c ∧ Rep S bl w v c := by
 unfold rM at hg
 obtain ⟨cs, h1, h2⟩ := Option.bind_eq_some_iff.1 hg
 exact (h.obj id cs b h1 hb).rep o v h2
theorem blk (h : St lim B F S bl vals H w) {id : Nat} (hi : id < H.length) : ∃ b, bl[id]? = some b := ⟨_, List.getElem?_eq_getElem (by rw [← h.len]; exact hi)⟩
mutual
theorem aO2 : ∀ (a b : V), eqV a b = true → a = b
 | .bool _, x, h | .int .., x, h | .str _, x, h | .ptr .., x, h | .nilp, x, h | .ar .., x, h | .nilf, x, h | .nili, x, h | .nls, x, h | .raw .., x, h => by
   cases x <;> simp_all [eqV]
 | .fp c i, x, h => by
   cases x <;> simp only [eqV, Bool.and_eq_true] at h <;> try cases h
   rename_i d j k1 k2; rw [eqL_eq c d k1, Nat.eq_of_beq_eq_true k2]
 | .via i o n c, x, h => by
   cases x <;> simp only [eqV, Bool.and_eq_true] at h <;> try cases h
   rename_i j p m d k1 k2; rw [eqL_eq c d k2, Nat.eq_of_beq_eq_true k1.1.1, Nat.eq_of_beq_eq_true k1.1.2, Nat.eq_of_beq_eq_true k1.2]
 | .sl o n c, x, h => by
   cases x <;> simp only [eqV, Bool.and_eq_true, decide_eq_true_eq] at h <;> try cases h
   rename_i p m d k1 k2; rw [eqL_eq c d k2, k1.1, Nat.eq_of_beq_eq_true k1.2]
 | .fn f c, x, h => by
   cases x <;> simp only [eqV, Bool.and_eq_true] at h <;> try cases h
   rename_i g d k1 k2; rw [eqL_eq c d k2, Nat.eq_of_beq_eq_true k1]
 | .ifc t v, x, h => by
   cases x <;> simp only [eqV, Bool.and_eq_true] at h <;> try cases h
   rename_i u w k1 k2; rw [aO2 v w k2, Nat.eq_of_beq_eq_true k1]
 | .agg c, x, h => by
   cases x <;> simp only [eqV] at h <;> try cases h
   rename_i d; rw [eqL_eq c d h]
 | .tup c, x, h => by
   cases x <;> simp only [eqV] at h <;> try cases h
   rename_i d; rw [eqL_eq c d h]
theorem eqL_eq : ∀ (a b : List V), eqL a b = true → a = b
 | [], x, h => by cases x <;> simp_all [eqL]
 | v :: r, x, h => by
   cases x <;> simp only [eqL, Bool.and_eq_true] at h <;> try cases h
   rename_i w s k1 k2; rw [aO2 v w k1, eqL_eq r s k2]
end
theorem aCs {m : Nat} : ∀ {G H : aB} {i : Nat} {a b : List V}, o7 m G H = true → G[i]? = some a → H[i]? = some b → a = b ∨ V.rbL m b = true
 | [], _, i, a, b, _, h, _ => by simp at h
 | _ :: _, [], i, a, b, _, _, h => by simp at h
 | g :: G, x :: H, i, a, b, h, h1, h2 => by
   simp only [o7, Bool.and_eq_true, Bool.or_eq_true] at h
   cases i with
   | zero =>
     simp only [List.getElem?_cons_zero, Option.some.injEq] at h1 h2
     subst h1; subst h2
     exact h.1.symm.imp (eqL_eq _ _) id
   | succ i => exact aCs h.2 (by simpa using h1) (by simpa using h2)
theorem wf (h : St lim B F S bl vals H w) (i : Nat) (cs : List V) (hi : H[i]? = some cs) : V.rbL H.length cs = true := by
 have hil := (List.getElem?_eq_some_iff.1 hi).1
 obtain ⟨b, hb⟩ : ∃ b, bl[i]? = some b := ⟨_, List.getElem?_eq_getElem (by rw [← h.len]; exact hil)⟩
 have ho := h.obj i cs b hi hb
 refine V.rbL_iff.2 fun v hv => ?_
 obtain ⟨j, hj⟩ := List.mem_iff_getElem?.1 hv
 obtain ⟨_, c, _, hr⟩ := ho.rep j v hj
 exact Rep.rb (by rw [h.len]; exact Nat.le_refl _) v c hr
theorem kept_all {H' : aB} {l : Nat} (hw : ∀ (i : Nat) cs, H[i]? = some cs → V.rbL H.length cs = true) (hk : C9 l H H' = true) (i : Nat) (cs : List V) (hl : l ≤ i) (hi : i < H.length) (h' : H'[i]? = some cs) : V.rbL H.length cs = true := by
 have h0 : H[i]? = some H[i] := List.getElem?_eq_getElem hi
 rcases aCs (i := i - l) (a := H[i]) (b := cs) hk (by rw [List.getElem?_drop, show l + (i - l) = i by omega]; exact h0) (by rw [List.getElem?_drop, show l + (i - l) = i by omega]; exact h') with e | e
 ·rw [← e]; exact hw i _ h0
 ·exact e
theorem aAc (w : World) : ∀ (m : Nat) (H : aB) (bl : List Nat), H.length = bl.length → aY w H bl = aY w (H.take m) (bl.take m) ++ aY w (H.drop m) (bl.drop m) := by
 intro m H bl h
 have := eY w (H.take m) (bl.take m) (H.drop m) (bl.drop m) (by simp [h])
 rwa [List.take_append_drop, List.take_append_drop] at this
theorem cut (h : St lim B F S bl vals H w) {m : Nat} (hv : ∀ p ∈ vals, p.1.rb m = true) (hl : ∃ l, lim = some l ∧ l ≤ m ∧ ∀ (i : Nat) cs, l ≤ i → i < m → H[i]? = some cs → V.rbL m cs = true) (hm : m ≤ H.length) : St lim B F S (bl.take m) vals (H.take m) w := by
 obtain ⟨l, rfl, hlm, hk⟩ := hl
 obtain ⟨r1, r2, r3⟩ := h.refs l rfl
 have hsub := aAc w m H bl h.len
 refine ⟨fun p hp => Rep.cut _ _ (hv p hp) (h.rep p hp), by simp [h.len], ?_, fun x => ?_, ?_, fun b o x => ⟨fun y => (h.stab b o x).1 (List.mem_of_mem_take y), (h.stab b o x).2⟩,
  fun b hb => h.base b (hb.imp id List.mem_of_mem_take), ?_, fun i j b cs ds hij hbi hbj hi hj => ?_⟩
 ·intro i cs b hi hb
  have him : i < m := by have := (List.getElem?_eq_some_iff.1 hi).1; simp at this; omega
  rw [List.getElem?_take, if_pos him] at hi hb
  have ho := h.obj i cs b hi hb
  refine ⟨ho.ex, fun j v hj => ?_⟩
  obtain ⟨a1, c, a2, a3⟩ := ho.rep j v hj
  have hrb : V.rbL m cs = true := by
   by_cases hil : i < l
   ·exact V.rbL_mono hlm cs (r2 i cs hil hi)
   ·exact hk i cs (by omega) him hi
  exact ⟨a1, c, a2, Rep.cut v c (V.rbL_iff.1 hrb v (List.mem_of_getElem? hj)) a3⟩
 ·have := h.nodup x
  rw [hsub] at this
  have a := aF4 (l := bl) (m := m) (x := x)
  simp only [aS, List.map_append, List.count_append] at this ⊢
  omega
 ·intro t ht
  exact h.tip t (ht.imp id fun y => by rw [hsub]; exact List.mem_append_left _ y)
 ·intro l' hl'
  cases hl'
  refine ⟨by simp; omega, fun i cs hil hi => ?_, fun i j b hi hj hbi hbj => ?_⟩
  ·rw [List.getElem?_take, if_pos (by omega)] at hi
   exact r2 i cs hil hi
  ·have t : ∀ k, (bl.take m)[k]? = some b → bl[k]? = some b := fun k e => by
    rw [List.getElem?_take] at e
    split at e
    ·exact e
    ·cases e
   exact r3 i j b hi hj (t i hbi) (t j hbj)
 ·have t : ∀ {α : Type} (l : List α) (k : Nat) (x : α), (l.take m)[k]? = some x → l[k]? = some x := fun l k x e => by
   rw [List.getElem?_take] at e
   split at e
   ·exact e
   ·cases e
  exact h.sep i j b cs ds hij (t _ _ _ hbi) (t _ _ _ hbj) (t _ _ _ hi) (t _ _ _ hj)
end St
end Go.Abs
namespace Go.Abs
open Go.RowKit (Below)
set_option linter.unusedVariables false
theorem rO (w : World) (b : Nat) : ∀ (A C : List V) (k : Nat), iT w (A ++ C) b k = iT w A b k ++ iT w C b (k + A.length)
 | [], C, k => by simp [iT]
 | v :: A, C, k => by
   simp only [List.cons_append, iT, rO w b A C (k + 1), List.append_assoc, List.length_cons]
   rw [show k + 1 + A.length = k + (A.length + 1) by omega]
theorem z0 {w w' : World} {b : Nat} : ∀ (A : List V) (k : Nat), (∀ j, j < A.length → w'.cell? ⟨b, k + j, none⟩ = w.cell? ⟨b, k + j, none⟩) → iT w' A b k = iT w A b k
 | [], _, _ => rfl
 | v :: A, k, h => by
   have h0 := h 0 (by simp)
   simp only [Nat.add_zero] at h0
   have h2 : ∀ j, j < A.length → w'.cell? ⟨b, k + 1 + j, none⟩ = w.cell? ⟨b, k + 1 + j, none⟩ := fun j hj => by
    have := h (j + 1) (by simpa using hj)
    rwa [show k + 1 + j = k + (j + 1) by omega]
   simp only [iT, h0, z0 A (k + 1) h2]
theorem qK {α : Type} {l : List α} {i : Nat} {x : α} (h : l[i]? = some x) : ∃ A C, l = A ++ x :: C ∧ A.length = i := by
 obtain ⟨hi, hx⟩ := List.getElem?_eq_some_iff.1 h
 refine ⟨l.take i, l.drop (i + 1), ?_, by simp; omega⟩
 rw [← hx, List.getElem_cons_drop, List.take_append_drop]
theorem J7 {α : Type} (A C : List α) (x y : α) : (A ++ x :: C).set A.length y = A ++ y :: C := by
 simp [List.set_append]
namespace St
variable {lim : Option Nat} {B : Nat} {F F0 : List Nat} {S : Nat → Nat → Prop} {bl : List Nat} {vals : List (V × Value)} {H : aB} {w : World}
theorem repl (h : St lim B F0 S bl vals H w) {id o b : Nat} {cs : List V} {old v : V} {cold c : Value} {w' : World}
 (hH : H[id]? = some cs) (ho : cs[o]? = some old) (hb : bl[id]? = some b) (hcold : w.cell? ⟨b, o, none⟩ = some cold)
 (hval : ∀ p ∈ vals, Rep S bl w' p.1 p.2) (size : w'.heap.size = w.heap.size) (others : ∀ b', b' ≠ b → w'.heap[b']? = w.heap[b']?)
 (blkb : ∀ carr e f, w.heap[b]? = some (.cells carr e f) → w'.heap[b]? = some (.cells (carr.setIfInBounds o c) e f))
 (hs : v.single = true) (hr : Rep S bl w v c) (hF : ∀ x, F.count x + (aS (bP v c)).count x ≤ F0.count x + (aS (bP old cold)).count x)
 (ht : ∀ t ∈ bP v c, TipOK S w t ∧ B ≤ t.blk ∧ t.blk ≠ b) (hl : ∀ l, lim = some l → l ≤ id) :
 St lim B F S bl vals (H.set id (cs.set o v)) w' := by
 obtain ⟨HA, HC, rfl, hHA⟩ := qK hH
 obtain ⟨bA, bC, rfl, hbA⟩ := qK hb
 obtain ⟨A, C, rfl, hA⟩ := qK ho
 have hlen := h.len
 have hAl : HA.length = bA.length := by omega
 have hCl : HC.length = bC.length := by simp at hlen; omega
 have hbm : b ∈ bA ++ b :: bC := by simp
 have hlive : ∀ (i b' : Nat) cs', i ≠ id → (HA ++ (A ++ old :: C) :: HC)[i]? = some cs' → (bA ++ b :: bC)[i]? = some b' → cs' = [] ∨ b' ≠ b := by
  intro i b' cs' hii hi hbi
  by_cases e : b' = b
  ·subst e
   exact .inl ((h.sep i id b' cs' _ hii hbi hb hi hH).resolve_right (by simp))
  ·exact .inr e
 have hSb : ∀ o', ¬ S b o' := fun o' x => (h.stab b o' x).1 hbm
 have k : Keeps S w S w' := ⟨fun _ _ x => x, fun b' o' x => jH (others b' (by rintro rfl; exact hSb o' x)) o', fun b' n x => by
  by_cases e : b' = b
  ·subst e
   obtain ⟨carr, t, f, x1, x2⟩ := x
   exact ⟨_, t, f, blkb carr t f x1, by simpa using x2⟩
  ·exact x.same (others b' e)⟩
 obtain ⟨⟨carr, e, lo, hi, hwb, hsz, hfz⟩, hrep⟩ := h.obj id _ b hH hb
 have hwb' := blkb carr e (lo, hi) hwb
 have bX : ∀ j, j ≠ o → w'.cell? ⟨b, j, none⟩ = w.cell? ⟨b, j, none⟩ := fun j hj => by
  rw [lQ hwb, lQ hwb', Array.getElem?_setIfInBounds_ne (Ne.symm hj)]
 have hoc : o < carr.size := by rw [lQ hwb] at hcold; exact (Array.getElem?_eq_some_iff.1 hcold).1
 have hcell : w'.cell? ⟨b, o, none⟩ = some c := by rw [lQ hwb', Array.getElem?_setIfInBounds_self_of_lt hoc]
 have e0 : aY w (HA ++ (A ++ old :: C) :: HC) (bA ++ b :: bC) = aY w HA bA ++ ((iT w A b 0 ++ (bP old cold ++ iT w C b (o + 1))) ++ aY w HC bC) := by
  rw [eY _ _ _ _ _ hAl]
  simp only [aY, rO, iT, hA, Nat.zero_add, hcold, Option.getD_some]
 have e1 : aY w' ((HA ++ (A ++ old :: C) :: HC).set id ((A ++ old :: C).set o v)) (bA ++ b :: bC) = aY w HA bA ++ ((iT w A b 0 ++ (bP v c ++ iT w C b (o + 1))) ++ aY w HC bC) := by
  rw [← hA, ← hHA, J7, J7, eY _ _ _ _ _ hAl]
  simp only [aY, rO, iT, hA, Nat.zero_add, hcell, Option.getD_some]
  have q1 : ∀ j, j < A.length → w'.cell? ⟨b, 0 + j, none⟩ = w.cell? ⟨b, 0 + j, none⟩ := fun j hj => by rw [Nat.zero_add]; exact bX j (by omega)
  have q2 : ∀ j, j < C.length → w'.cell? ⟨b, o + 1 + j, none⟩ = w.cell? ⟨b, o + 1 + j, none⟩ := fun j hj => bX (o + 1 + j) (by omega)
  have z1 : aY w' HA bA = aY w HA bA := wQ HA bA fun i cs' b' hi hbi => by
   have hl := (List.getElem?_eq_some_iff.1 hi).1
   exact (hlive i b' cs' (by omega) (by rw [List.getElem?_append_left hl]; exact hi) (by rw [List.getElem?_append_left (by omega)]; exact hbi)).imp (fun q => q) (others b')
  have z2 : aY w' HC bC = aY w HC bC := wQ HC bC fun i cs' b' hi hbi => by
   refine (hlive (HA.length + 1 + i) b' cs' (by omega) ?_ ?_).imp (fun q => q) (others b')
   ·rw [List.getElem?_append_right (by omega), show HA.length + 1 + i - HA.length = i + 1 by omega, List.getElem?_cons_succ]; exact hi
   ·rw [List.getElem?_append_right (by omega), show HA.length + 1 + i - bA.length = i + 1 by omega, List.getElem?_cons_succ]; exact hbi
  rw [z1, z2, z0 A 0 q1, z0 C (o + 1) q2]
 have hne : ∀ t, (t ∈ aH vals ∨ t ∈ aY w (HA ++ (A ++ old :: C) :: HC) (bA ++ b :: bC)) → t.blk ≠ b := by
  intro t ht' e
  have := h.nodup b
  have hbc : ind (bA ++ b :: bC) b = 1 := eK hbm
  rcases ht' with ht' | ht'
  ·have : 1 ≤ (aS (aH vals)).count b := mem_count (List.mem_map.2 ⟨t, ht', e⟩); omega
  ·have : 1 ≤ (aS (aY w (HA ++ (A ++ old :: C) :: HC) (bA ++ b :: bC))).count b := mem_count (List.mem_map.2 ⟨t, ht', e⟩); omega
 refine ⟨hval, by simp [h.len], ?_, ?_, ?_, ?_, ?_, ?_, ?_⟩
 ·intro i cs' b' hi hbi
  by_cases hii : i = id
  ·subst hii
   rw [hb] at hbi
   cases hbi
   rw [List.getElem?_set_self (by rw [← hHA]; simp)] at hi
   cases hi
   refine ⟨⟨_, e, lo, hi, hwb', by simpa using hsz, by simpa using hfz⟩, fun j u hj => ?_⟩
   by_cases hjo : j = o
   ·subst hjo
    rw [List.getElem?_set_self (by rw [← hA]; simp)] at hj
    cases hj
    exact ⟨hs, c, hcell, Rep.mono k (fun _ _ e => e) v c (V.noVia_of_single hs) hr⟩
   ·rw [List.getElem?_set_ne (Ne.symm hjo)] at hj
    obtain ⟨a1, d, a2, a3⟩ := hrep j u hj
    exact ⟨a1, d, by rw [bX j hjo]; exact a2, Rep.mono k (fun _ _ e => e) u d (V.noVia_of_single a1) a3⟩
  ·rw [List.getElem?_set_ne (Ne.symm hii)] at hi
   rcases hlive i b' cs' hii hi hbi with rfl | hne'
   ·by_cases e' : b' = b
    ·subst e'
     exact ⟨⟨_, e, lo, _, hwb', by simp, by simpa using hfz⟩, fun j u hj => by simp at hj⟩
    ·exact (h.obj i [] b' hi hbi).mono k (fun _ _ e => e) (others b' e')
   ·exact (h.obj i cs' b' hi hbi).mono k (fun _ _ e => e) (others b' hne')
 ·intro x
  have := h.nodup x
  have hFx := hF x
  rw [e1]
  rw [e0] at this
  simp only [aS, List.map_append, List.count_append] at this hFx ⊢
  omega
 ·intro t ht'
  rw [e1] at ht'
  have hold : (t ∈ aH vals ∨ t ∈ aY w (HA ++ (A ++ old :: C) :: HC) (bA ++ b :: bC)) ∨ t ∈ bP v c := by
   rw [e0]
   simp only [List.mem_append] at ht' ⊢
   rcases ht' with h | h | (h | h | h) | h
   ·exact .inl (.inl h)
   ·exact .inl (.inr (.inl h))
   ·exact .inl (.inr (.inr (.inl (.inl h))))
   ·exact .inr h
   ·exact .inl (.inr (.inr (.inl (.inr (.inr h)))))
   ·exact .inl (.inr (.inr (.inr h)))
  rcases hold with hold | hold
  ·exact ⟨(h.tip t hold).1.mono (others _ (hne t hold)) fun _ x => x, (h.tip t hold).2⟩
  ·obtain ⟨a1, a2, a3⟩ := ht t hold
   exact ⟨a1.mono (others _ a3) fun _ x => x, a2⟩
 ·intro b' o' x
  obtain ⟨a1, a2⟩ := h.stab b' o' x
  exact ⟨a1, by rw [k.cell b' o' x]; exact a2⟩
 ·intro b' hb'
  rcases hb' with hb' | hb'
  ·have hx := hF b'
   have := mem_count hb'
   by_cases h0 : b' ∈ F0
   ·have := h.base b' (.inl h0); exact ⟨this.1, by rw [size]; exact this.2⟩
   ·rw [gM h0] at hx
    have hm : b' ∈ aS (bP old cold) := aC0 (by omega)
    obtain ⟨t, ht1, rfl⟩ := List.mem_map.1 hm
    have := h.tip t (.inr (by rw [e0]; simp [ht1]))
    exact ⟨this.2, by rw [size]; exact this.1.lt⟩
  ·have := h.base b' (.inr hb'); exact ⟨this.1, by rw [size]; exact this.2⟩
 ·intro l hl'
  obtain ⟨r1, r2, r3⟩ := h.refs l hl'
  refine ⟨by simpa using r1, fun i cs' hil hi => ?_, r3⟩
  have := hl l hl'
  rw [List.getElem?_set_ne (by omega)] at hi
  exact r2 i cs' hil hi
 ·have g : ∀ (i : Nat) cs', ((HA ++ (A ++ old :: C) :: HC).set id ((A ++ old :: C).set o v))[i]? = some cs' → ∃ ds', (HA ++ (A ++ old :: C) :: HC)[i]? = some ds' ∧ (ds' = [] → cs' = []) := by
   intro i cs' hi
   by_cases hii : i = id
   ·subst hii
    exact ⟨_, hH, fun e => by simp at e⟩
   ·rw [List.getElem?_set_ne (Ne.symm hii)] at hi
    exact ⟨_, hi, fun e => e⟩
  intro i j b' cs' ds' hij hbi hbj hi hj
  obtain ⟨x, x1, x2⟩ := g i cs' hi
  obtain ⟨y, y1, y2⟩ := g j ds' hj
  exact (h.sep i j b' x y hij hbi hbj x1 y1).imp x2 y2
theorem setCell_heap (w : World) (b o : Nat) (c : Value) : (w.setCell ⟨b, o, none⟩ c).heap.size = w.heap.size ∧ (∀ b', b' ≠ b → (w.setCell ⟨b, o, none⟩ c).heap[b']? = w.heap[b']?) ∧
 ∀ carr e f, w.heap[b]? = some (.cells carr e f) → (w.setCell ⟨b, o, none⟩ c).heap[b]? = some (.cells (carr.setIfInBounds o c) e f) := by
 refine ⟨by simp [World.setCell], fun b' hb' => ?_, fun carr e f hb => ?_⟩
 ·simp only [World.setCell, Array.getElem?_modify]; rw [if_neg (Ne.symm hb')]
 ·simp only [World.setCell, Array.getElem?_modify, if_true, hb, Option.map_some]
  rfl
theorem aBc {B : Nat} {w : World} {b o : Nat} (c : Value) (hB : B ≤ b) : Below B w (w.setCell ⟨b, o, none⟩ c) :=
 ⟨rfl, rfl, rfl, by simp [World.setCell], fun k hk => (setCell_heap w b o c).2.1 k (by omega)⟩
theorem setObj {id o b : Nat} {v : V} {c : Value} (h : St lim B (F ++ aS (bP v c)) S bl vals H w) (hv : ∀ p ∈ vals, p.1.noVia = true) (hg : (rM H id o).isSome = true) (hb : bl[id]? = some b)
 (hs : v.single = true) (hr : Rep S bl w v c) (ht : ∀ t ∈ bP v c, TipOK S w t) (hl : bN lim id (v.rb ·) = true) :
 St lim B F S bl vals (yV H id o v) (w.setCell ⟨b, o, none⟩ c) ∧ Ext lim B F S bl H w S bl (yV H id o v) (w.setCell ⟨b, o, none⟩ c) := by
 obtain ⟨old, hold⟩ := Option.isSome_iff_exists.1 hg
 obtain ⟨cs, hH, ho⟩ := Option.bind_eq_some_iff.1 (show (H[id]?).bind (·[o]?) = some old from hold)
 obtain ⟨_, cold, hcold, _⟩ := h.get hold hb
 obtain ⟨a1, a2, a3⟩ := setCell_heap w b o c
 have hbm := List.mem_of_getElem? hb
 have hSb : ∀ o', ¬ S b o' := fun o' x => (h.stab b o' x).1 hbm
 have k : Keeps S w S (w.setCell ⟨b, o, none⟩ c) := ⟨fun _ _ x => x, fun b' o' x => jH (a2 b' (by rintro rfl; exact hSb o' x)) o', fun b' n x => by
  by_cases e : b' = b
  ·subst e
   obtain ⟨carr, t, f, x1, x2⟩ := x
   exact ⟨_, t, f, a3 carr t f x1, by simpa using x2⟩
  ·exact x.same (a2 b' e)⟩
 have hF : ∀ x ∈ F ++ aS (bP v c), x ≠ b := by
  rintro x hx rfl
  have h1 := h.nodup x
  have h2 := mem_count hx
  have h3 := eK hbm
  omega
 have hset' : yV H id o v = H.set id (cs.set o v) := by simp [yV, hH]
 rw [hset']
 refine ⟨h.repl hH ho hb hcold (fun p hp => Rep.mono k (fun _ _ e => e) _ _ (hv p hp) (h.rep p hp)) a1 a2 a3 hs hr (fun x => by simp only [List.count_append]; omega)
  (fun t ht' => ⟨ht t ht', (h.base t.blk (.inl (List.mem_append_right _ (List.mem_map.2 ⟨t, ht', rfl⟩)))).1, hF _ (List.mem_append_right _ (List.mem_map.2 ⟨t, ht', rfl⟩))⟩) ?_,
  ⟨k, fun x hx => ⟨a2 x (hF x (List.mem_append_left _ hx)), fun _ y => y⟩, aBc c (h.base b (.inr hbm)).1, fun _ _ e => e, by simp, ?_⟩⟩
 ·rintro l rfl
  simpa only [bN, decide_eq_true_eq] using hl
 ·rintro l rfl
  simp only [bN, decide_eq_true_eq] at hl
  refine ⟨fun i b' hi hb' => a2 b' ?_, ?_⟩
  ·rintro rfl
   exact (h.refs l rfl).2.2 i id b' hi hl hb' hb
  ·rw [List.take_set_of_le (by omega)]
theorem unflag {id o b : Nat} {s : V} {c : Value} (h : St lim B F S bl vals H w) (hg : rM H id o = some s) (hb : bl[id]? = some b) (hc : w.cell? ⟨b, o, none⟩ = some c)
 (hl : bN lim id (fun _ => true) = true) :
 St lim B F S bl ((s, c) :: vals) (yV H id o s.dis1) w ∧ Ext lim B F S bl H w S bl (yV H id o s.dis1) w := by
 obtain ⟨cs, hH, ho⟩ := Option.bind_eq_some_iff.1 (show (H[id]?).bind (·[o]?) = some s from hg)
 obtain ⟨hs, c', hc', hr⟩ := h.get hg hb
 rw [hc] at hc'
 cases hc'
 have hset' : yV H id o s.dis1 = H.set id (cs.set o s.dis1) := by simp [yV, hH]
 rw [hset']
 have htip : cJ s c = bP s c := by cases s <;> first | rfl | cases hs
 have h1 : St lim B (F ++ aS (bP s c)) S bl vals (H.set id (cs.set o s.dis1)) w := by
  refine h.repl hH ho hb hc (fun p hp => h.rep p hp) rfl (fun _ _ => rfl) (fun carr e f hw => ?_) (V.dis1_single hs) hr.dis1 (fun x => by simp only [fF, aS, List.map_nil, List.count_nil, List.count_append]; omega)
   (fun t ht => by rw [fF] at ht; cases ht) (fun l hl' => by subst hl'; simpa only [bN, decide_eq_true_eq] using hl)
  rw [hw]
  rw [lQ hw] at hc
  congr
  apply Array.ext
  ·simp
  ·intro i h1 h2
   rw [Array.getElem_setIfInBounds]
   split
   ·rename_i e; subst e; exact ((Array.getElem?_eq_some_iff.1 hc).2)
   ·rfl
 refine ⟨?_, ⟨Keeps.refl _ _, fun _ _ => ⟨rfl, fun _ x => x⟩, Below.refl _ _, fun _ _ e => e, by simp, ?_⟩⟩
 ·refine St.add (us := [(s, c)]) (by simpa [aH, htip] using h1) (fun p hp => ?_) fun t ht => ?_
  ·simp at hp; subst hp; exact hr
  ·simp only [aH, htip, List.append_nil] at ht
   obtain ⟨HA, HC, rfl, hHA⟩ := qK hH
   obtain ⟨bA, bC, rfl, hbA⟩ := qK hb
   obtain ⟨A, C, rfl, hA⟩ := qK ho
   have hlen := h.len
   refine (h.tip t (.inr ?_)).1
   rw [eY _ _ _ _ _ (by omega)]
   simp only [aY, rO, iT, hA, Nat.zero_add, hc, Option.getD_some, List.mem_append]
   exact .inr (.inl (.inr (.inl ht)))
 ·rintro l rfl
  simp only [bN, decide_eq_true_eq] at hl
  exact ⟨fun _ _ _ _ => rfl, by rw [List.take_set_of_le hl]⟩
end St
end Go.Abs
namespace Go.Abs
open Go.RowKit (Below)
set_option linter.unusedVariables false
theorem add_none (b o n : Nat) : (⟨b, o, none⟩ : Addr).add n = ⟨b, o + n, none⟩ := by
 unfold Addr.add
 split
 ·rename_i h; subst h; rfl
 ·rfl
theorem kS {a : Addr} (h : a.spot = none) : a = ⟨a.block, a.off, none⟩ := by cases a; simp_all
def bS (w : World) (b : Nat) : Nat → List Value → World
 | _, [] => w
 | o, v :: vs => bS (w.setCell ⟨b, o, none⟩ v) b (o + 1) vs
theorem uK : ∀ (vs : List Value) (w : World) (b o : Nat) (carr : Array Value) (e : TypeId) (f : Nat × Nat), w.heap[b]? = some (.cells carr e f) →
 (bS w b o vs).heap.size = w.heap.size ∧ (∀ b', b' ≠ b → (bS w b o vs).heap[b']? = w.heap[b']?) ∧ (bS w b o vs).os = w.os ∧ (bS w b o vs).tape = w.tape ∧ (bS w b o vs).output = w.output ∧
 ∃ carr' : Array Value, (bS w b o vs).heap[b]? = some (.cells carr' e f) ∧ carr'.size = carr.size ∧
  ∀ j : Nat, carr'[j]? = if o ≤ j ∧ j < o + vs.length ∧ j < carr.size then vs[j - o]? else carr[j]?
 | [], w, b, o, carr, e, f, h => ⟨rfl, fun _ _ => rfl, rfl, rfl, rfl, carr, h, rfl, fun j => by rw [if_neg]; simp; omega⟩
 | v :: vs, w, b, o, carr, e, f, h => by
   obtain ⟨a1, a2, a3⟩ := St.setCell_heap w b o v
   obtain ⟨b1, b2, b3, b4, b5, carr', b6, b7, b8⟩ := uK vs (w.setCell ⟨b, o, none⟩ v) b (o + 1) _ e f (a3 carr e f h)
   refine ⟨b1.trans a1, fun b' hb' => (b2 b' hb').trans (a2 b' hb'), b3, b4, b5, carr', b6, by simpa using b7, fun j => ?_⟩
   rw [b8 j]
   simp only [Array.size_setIfInBounds, List.length_cons]
   by_cases h1 : j = o
   ·subst h1
    rw [if_neg (by omega)]
    by_cases h2 : j < carr.size
    ·rw [if_pos (by omega), Array.getElem?_setIfInBounds_self_of_lt h2]; simp
    ·rw [if_neg (by omega), Array.getElem?_setIfInBounds]; simp [h2]
   ·rw [Array.getElem?_setIfInBounds_ne (Ne.symm h1)]
    by_cases h3 : o + 1 ≤ j ∧ j < o + 1 + vs.length ∧ j < carr.size
    ·rw [if_pos h3, if_pos (by omega), show j - o = (j - (o + 1)) + 1 by omega, List.getElem?_cons_succ]
    ·rw [if_neg h3, if_neg (by omega)]
theorem aDa {w : World} {b o : Nat} {carr : Array Value} {e : TypeId} {lo hi : Nat} (h : w.heap[b]? = some (.cells carr e (lo, hi))) (ho : ¬ (lo ≤ o ∧ o < hi)) : w.frozen? ⟨b, o, none⟩ = false := by
 simp only [World.frozen?, h]
 simp only [Bool.and_eq_false_iff, decide_eq_false_iff_not]
 omega
theorem eF (P : Program) {b o : Nat} : ∀ (vs : List Value) (i : Nat) (w : World) (carr : Array Value) (e : TypeId) (lo hi : Nat), w.heap[b]? = some (.cells carr e (lo, hi)) → o + i + vs.length ≤ carr.size →
 (∀ j, o + i ≤ j → j < carr.size → ¬ (lo ≤ j ∧ j < hi)) → (∀ v ∈ vs, v.oneCell' = true) → (storeCells ⟨b, o, none⟩ vs i).run P w = .ok () (bS w b (o + i) vs)
 | [], i, w, carr, e, lo, hi, _, _, _, _ => by unfold storeCells bS; simp
 | v :: vs, i, w, carr, e, lo, hi, h, hl, hf, hv => by
   unfold storeCells bS
   simp only [List.length_cons] at hl
   have hc : w.cell? ⟨b, o + i, none⟩ = some carr[o + i] := by rw [lQ h]; exact Array.getElem?_eq_getElem (by omega)
   simp only [Sem.run_bind, add_none]
   rw [run_store P w _ v _ (hv v (List.mem_cons_self ..)), hc]
   simp only [aDa h (hf (o + i) (Nat.le_refl _) (by omega)), Bool.false_eq_true, if_false]
   have a3 := (St.setCell_heap w b (o + i) v).2.2 carr e (lo, hi) h
   have := eF P (b := b) (o := o) vs (i + 1) (w.setCell ⟨b, o + i, none⟩ v) _ e lo hi a3 (by simp; omega) (fun j hj hj' => hf j (by omega) (by simpa using hj')) fun u hu => hv u (List.mem_cons_of_mem _ hu)
   exact this
theorem tR (P : Program) {b o : Nat} : ∀ (n i : Nat) (acc : Array Value) (w : World) (cs : List Value), cs.length = n → (∀ (j : Nat) c, cs[j]? = some c → w.cell? ⟨b, o + i + j, none⟩ = some c) →
 (loadCellsFrom ⟨b, o, none⟩ i n acc).run P w = .ok (acc ++ cs.toArray) w
 | 0, i, acc, w, cs, hl, _ => by
   have : cs = [] := List.length_eq_zero_iff.1 hl
   subst this; unfold loadCellsFrom; simp
 | n + 1, i, acc, w, [], hl, _ => by simp at hl
 | n + 1, i, acc, w, c :: cs, hl, h => by
   unfold loadCellsFrom
   have h0 := h 0 c rfl
   rw [Nat.add_zero] at h0
   simp only [Sem.run_bind, add_none, run_load, h0]
   have := tR P (b := b) (o := o) n (i + 1) (acc.push c) w cs (by simpa using hl) fun j d hd => by
    have := h (j + 1) d (by simpa using hd)
    rwa [show o + (i + 1) + j = o + i + (j + 1) by omega]
   refine this.trans ?_
   congr 1
   simp
theorem eA (P : Program) {b o : Nat} {n : Nat} {w : World} {cs : List Value} (hl : cs.length = n) (h : ∀ (j : Nat) c, cs[j]? = some c → w.cell? ⟨b, o + j, none⟩ = some c) :
 (loadCells ⟨b, o, none⟩ n).run P w = .ok cs.toArray w := by
 have := tR P (b := b) (o := o) n 0 #[] w cs hl fun j c hj => by rw [Nat.add_zero]; exact h j c hj
 unfold loadCells
 rw [this]
 simp
theorem RepC.cells {S bl w} : ∀ {vs : List V} {b o : Nat}, RepC S bl w vs b o → ∃ ds : List Value, RepL S bl w vs ds ∧ (∀ (j : Nat) c, ds[j]? = some c → w.cell? ⟨b, o + j, none⟩ = some c ∧ S b (o + j)) ∧ ∀ v ∈ vs, v.single = true
 | [], b, o, _ => ⟨[], by simp only [RepL], fun j c h => by simp at h, fun v h => by simp at h⟩
 | v :: vs, b, o, h => by
   simp only [RepC] at h
   obtain ⟨h1, h2, ⟨c, h3, h4⟩, h5⟩ := h
   obtain ⟨ds, a1, a2, a3⟩ := RepC.cells h5
   refine ⟨c :: ds, by simp only [RepL]; exact ⟨c, ds, rfl, h4, a1⟩, fun j d hd => ?_, fun u hu => ?_⟩
   ·cases j with
    | zero => simp at hd; subst hd; exact ⟨h3, h1⟩
    | succ j =>
      have := a2 j d (by simpa using hd)
      rwa [show o + 1 + j = o + (j + 1) by omega] at this
   ·rcases List.mem_cons.1 hu with rfl | hu
    ·exact h2
    ·exact a3 u hu
theorem RepL.oneCell {S bl w} {vs : List V} {ds : List Value} (h : RepL S bl w vs ds) (hs : ∀ v ∈ vs, v.single = true) : ∀ d ∈ ds, d.oneCell' = true := by
 obtain ⟨h1, h2⟩ := (aK vs ds).1 h
 intro d hd
 obtain ⟨j, hj⟩ := List.mem_iff_getElem?.1 hd
 obtain ⟨hjl, _⟩ := List.getElem?_eq_some_iff.1 hj
 have hv : vs[j]? = some vs[j] := List.getElem?_eq_getElem (by omega)
 exact ((h2 j _ _ hv hj).oneCell (hs _ (List.mem_of_getElem? hv))).1
namespace St
variable {lim : Option Nat} {B : Nat} {F : List Nat} {S : Nat → Nat → Prop} {bl : List Nat} {vals : List (V × Value)} {H : aB} {w : World}
theorem newSl {cs : List V} {ds ex : List Value} (h : St lim B F S bl vals H w) (hB : B ≤ w.heap.size) (hr : RepL S bl w cs ds) (hs : ∀ v ∈ cs, v.single = true)
 {carr : Array Value} {e : TypeId} {lo hi n cap sz : Nat} (hc : carr.toList = ds ++ ex) (hf : ∀ o, o < carr.size → ¬ (lo ≤ o ∧ o < hi)) (hn : cs.length = n * sz) (hcap : n ≤ cap ∧ cap * sz ≤ carr.size) :
 ∃ S', St lim B F S' bl ((.sl (some sz) n cs, .slice (some ⟨w.heap.size, 0, none⟩) n cap) :: vals) H { w with heap := w.heap.push (.cells carr e (lo, hi)) } ∧
  Ext lim B F S bl H w S' bl H { w with heap := w.heap.push (.cells carr e (lo, hi)) } := by
 obtain ⟨hn1, hn2, hn3⟩ := h.size_free
 have hlen : cs.length = ds.length := ((aK cs ds).1 hr).1
 have hcell : ∀ (j : Nat) c, ds[j]? = some c → ({ w with heap := w.heap.push (.cells carr e (lo, hi)) } : World).cell? ⟨w.heap.size, j, none⟩ = some c := by
  intro j c hj
  rw [lQ sV, ← Array.getElem?_toList, hc, List.getElem?_append_left (List.getElem?_eq_some_iff.1 hj).1]
  exact hj
 have k0 := h.keeps_push (.cells carr e (lo, hi))
 have k : Keeps S w (fun b o => S b o ∨ (b = w.heap.size ∧ o < cs.length)) { w with heap := w.heap.push (.cells carr e (lo, hi)) } := ⟨fun b o x => .inl x, k0.cell, k0.size⟩
 have h1 : St lim B F (fun b o => S b o ∨ (b = w.heap.size ∧ o < cs.length)) bl vals H { w with heap := w.heap.push (.cells carr e (lo, hi)) } := by
  refine h.world (by simp) (fun b hb => gC (h.held_lt hb).2) k ?_
  rintro b o (x | ⟨rfl, x⟩)
  ·exact .inl x
  ·refine .inr ⟨hn1, ?_⟩
   have hd : ds[o]? = some ds[o] := List.getElem?_eq_getElem (by omega)
   rw [hcell o _ hd]; rfl
 refine ⟨_, ?_, ⟨k, fun b hb => ⟨gC (h.base b (.inl hb)).2, fun o x => ?_⟩, aAb _ hB, fun _ _ e => e, Nat.le_refl _, fun l hl => ⟨fun i b _ hb => gC (h.base b (.inr (List.mem_of_getElem? hb))).2, rfl⟩⟩⟩
 ·have hrep : Rep (fun b o => S b o ∨ (b = w.heap.size ∧ o < cs.length)) bl { w with heap := w.heap.push (.cells carr e (lo, hi)) } (.sl (some sz) n cs) (.slice (some ⟨w.heap.size, 0, none⟩) n cap) := by
   simp only [Rep]
   refine ⟨_, cap, rfl, hcap.1, (fun x => by cases x), fun ad had => ?_⟩
   cases had
   refine ⟨fun _ => rfl, (kP cs _ _).2 fun j v hj => ?_⟩
   obtain ⟨hj1, _⟩ := List.getElem?_eq_some_iff.1 hj
   have hd : ds[j]? = some ds[j] := List.getElem?_eq_getElem (by omega)
   exact ⟨.inr ⟨rfl, by simp only [Nat.zero_add]; omega⟩, hs v (List.mem_of_getElem? hj), _, by simp only [Nat.zero_add]; exact hcell j _ hd, Rep.mono k (fun _ _ e => e) v _ (V.noVia_of_single (hs v (List.mem_of_getElem? hj))) (((aK cs ds).1 hr).2 j v _ hj hd)⟩
  by_cases hcn : cap ≤ n
  ·exact h1.add0 hrep (by simp [cJ, cU, bP, hcn])
  have ht : aH [(V.sl (some sz) n cs, Value.slice (some ⟨w.heap.size, 0, none⟩) n cap)] = [⟨w.heap.size, 0, n, cap, sz⟩] := by simp [aH, cJ, cU, bP, hcn]
  refine St.add (us := [(_, _)]) ⟨h1.rep, h1.len, h1.obj, ?_, h1.tip, h1.stab, ?_, h1.refs, h1.sep⟩ ?_ ?_
  ·intro x
   rw [ht]
   have := h1.nodup x
   simp only [aS, List.map_cons, List.map_nil, List.count_append, List.count_cons, List.count_nil] at this ⊢
   by_cases hx : w.heap.size = x
   ·subst hx
    have a1 := gM hn2
    have a2 : ind bl w.heap.size = 0 := gV fun y => hn1 (.inl y)
    have a3 : ((aH vals).map Tp.blk).count w.heap.size = 0 := gM fun y => hn1 (.inr (.inl y))
    have a4 : ((aY { w with heap := w.heap.push (.cells carr e (lo, hi)) } H bl).map Tp.blk).count w.heap.size = 0 := gM fun y => by
     rw [pH H bl fun b hb => gC (h.base b (.inr hb)).2] at y
     exact hn1 (.inr (.inr y))
    simp only [beq_self_eq_true, if_true]
    omega
   ·have hx' : (w.heap.size == x) = false := by simpa using hx
    simp only [hx', Bool.false_eq_true, if_false]; omega
  ·intro b hb
   rcases hb with hb | hb
   ·rcases List.mem_append.1 hb with hb | hb
    ·exact h1.base b (.inl hb)
    ·rw [ht] at hb; simp at hb; subst hb; exact ⟨hB, by simp⟩
   ·exact h1.base b (.inr hb)
  ·intro p hp
   simp at hp; subst hp
   exact hrep
  ·intro t ht'
   rw [ht] at ht'; simp at ht'; subst ht'
   exact ⟨⟨carr, e, lo, hi, sV, by simpa using hcap.2, fun o _ ho => hf o ho⟩, fun o ho x => by
    rcases x with x | ⟨_, x⟩
    ·exact hn3 o x
    ·simp only [Nat.zero_add] at ho; omega, hcap.1⟩
 ·rcases x with x | ⟨rfl, _⟩
  ·exact x
  ·exact absurd hb hn2
theorem appendIn {cs us : List V} {es : List Value} {sz n m cap : Nat} {ad : Addr} (h : St lim B F S bl ((.sl (some sz) n cs, .slice (some ad) n cap) :: vals) H w)
 (hr : RepL S bl w us es) (hs : ∀ v ∈ us, v.single = true) (hn : cs.length = n * sz) (hm : us.length = m * sz) (hcap : n + m ≤ cap) :
 ∃ S', St lim B F S' bl ((.sl (some sz) (n + m) (cs ++ us), .slice (some ad) (n + m) cap) :: vals) H (bS w ad.block (ad.off + n * sz) es) ∧
  Ext lim B F S bl H w S' bl H (bS w ad.block (ad.off + n * sz) es) := by
 have hrep := h.rep _ (List.mem_cons_self ..)
 simp only [Rep] at hrep
 obtain ⟨a, cap', he, hle, _, bX⟩ := hrep
 cases he
 obtain ⟨hsp, hC⟩ := bX ad rfl
 by_cases hcn : cap ≤ n
 ·have hm0 : m = 0 := by omega
  subst hm0
  have hu : us = [] := List.length_eq_zero_iff.1 (by rw [hm]; simp)
  subst hu
  have he0 : es = [] := by simpa [RepL] using hr
  subst he0
  exact ⟨S, by simpa [bS] using h, by simpa [bS] using Ext.refl _ _ _ _ _ _ _⟩
 have htl : aH [(V.sl (some sz) n cs, Value.slice (some ad) n cap)] = [⟨ad.block, ad.off, n, cap, sz⟩] := by simp [aH, cJ, cU, bP, hcn]
 have ht0 := (h.tip ⟨ad.block, ad.off, n, cap, sz⟩ (.inl (by simp [aH, cJ, cU, bP, hcn]))).1
 have hB0 := (h.tip ⟨ad.block, ad.off, n, cap, sz⟩ (.inl (by simp [aH, cJ, cU, bP, hcn]))).2
 obtain ⟨carr, e, lo, hi, hw, hsz, hfz⟩ := ht0.ex
 simp only at hw hsz hfz hB0
 have hlen : us.length = es.length := ((aK us es).1 hr).1
 have hmul : (n + m) * sz ≤ cap * sz := Nat.mul_le_mul_right sz hcap
 rw [Nat.add_mul] at hmul
 obtain ⟨q1, q2, q3, q4, q5, carr', q6, q7, q8⟩ := uK es w ad.block (ad.off + n * sz) carr e (lo, hi) hw
 have hnb : ad.block ∉ bl := fun x => by
  have := h.nodup ad.block
  have hc := eK x
  simp only [aH, cJ, cU, bP, hcn, if_false, aS, List.map_append, List.map_cons, List.count_append, List.count_cons_self] at this
  omega
 have hcellold : ∀ b o, S b o → (bS w ad.block (ad.off + n * sz) es).cell? ⟨b, o, none⟩ = w.cell? ⟨b, o, none⟩ := by
  intro b o x
  by_cases hb : b = ad.block
  ·subst hb
   rw [lQ hw, lQ q6, q8 o, if_neg]
   rintro ⟨y, _⟩
   exact ht0.free o y x
  ·exact jH (q2 b hb) o
 have k : Keeps S w (fun b o => S b o ∨ (b = ad.block ∧ ad.off + n * sz ≤ o ∧ o < ad.off + n * sz + us.length)) (bS w ad.block (ad.off + n * sz) es) := ⟨fun b o x => .inl x, hcellold, fun b k x => by
  by_cases hb : b = ad.block
  ·subst hb
   obtain ⟨c0, t0, f0, x1, x2⟩ := x
   rw [hw] at x1
   cases x1
   exact ⟨_, _, _, q6, by omega⟩
  ·exact x.same (q2 b hb)⟩
 have h0 : St lim B (F ++ aS (aH [(V.sl (some sz) n cs, Value.slice (some ad) n cap)])) S bl vals H w := St.rem (us := [(_, _)]) h
 have hnheld : ¬ held w vals H bl ad.block := by
  have := h0.nodup ad.block
  rw [htl] at this
  simp only [aS, List.map_cons, List.map_nil, List.count_append, List.count_cons_self, List.count_nil] at this
  rintro (x | x | x)
  ·exact hnb x
  ·have : 1 ≤ ((aH vals).map Tp.blk).count ad.block := mem_count x; omega
  ·have : 1 ≤ ((aY w H bl).map Tp.blk).count ad.block := mem_count x; omega
 have hnew : ∀ (j : Nat) d, es[j]? = some d → (bS w ad.block (ad.off + n * sz) es).cell? ⟨ad.block, ad.off + n * sz + j, none⟩ = some d := by
  intro j d hd
  obtain ⟨hj, _⟩ := List.getElem?_eq_some_iff.1 hd
  rw [lQ q6, q8, if_pos (by omega), show ad.off + n * sz + j - (ad.off + n * sz) = j by omega]; exact hd
 have htl2 : ∀ t ∈ aH [(V.sl (some sz) (n + m) (cs ++ us), Value.slice (some ad) (n + m) cap)], t = ⟨ad.block, ad.off, n + m, cap, sz⟩ := fun t ht => by
  simp only [aH, cJ, cU, bP, List.append_nil] at ht
  split at ht
  ·cases ht
  ·simpa using ht
 have hcnt : ∀ x, (aS (aH [(V.sl (some sz) (n + m) (cs ++ us), Value.slice (some ad) (n + m) cap)])).count x ≤ (aS (aH [(V.sl (some sz) n cs, Value.slice (some ad) n cap)])).count x := fun x => by
  rw [htl]
  simp only [aH, cJ, cU, bP, List.append_nil]
  split <;> simp [aS]
 have h1 : St lim B (F ++ aS (aH [(V.sl (some sz) (n + m) (cs ++ us), Value.slice (some ad) (n + m) cap)])) (fun b o => S b o ∨ (b = ad.block ∧ ad.off + n * sz ≤ o ∧ o < ad.off + n * sz + us.length)) bl vals H (bS w ad.block (ad.off + n * sz) es) := by
  refine St.unframe (h0.world (Nat.le_of_eq q1.symm) (fun b hb => q2 b (by rintro rfl; exact hnheld hb)) k ?_) (fun x => by have := hcnt x; simp only [List.count_append]; omega)
  rintro b o (x | ⟨rfl, x1, x2⟩)
  ·exact .inl x
  ·refine .inr ⟨hnheld, ?_⟩
   have hd : es[o - (ad.off + n * sz)]? = some es[o - (ad.off + n * sz)] := List.getElem?_eq_getElem (by omega)
   have := hnew _ _ hd
   rw [show ad.off + n * sz + (o - (ad.off + n * sz)) = o by omega] at this
   rw [this]; rfl
 refine ⟨_, St.add (us := [(_, _)]) h1 ?_ ?_, ⟨k, fun b hb => ⟨q2 b ?_, fun o x => ?_⟩, ⟨q3, q4, q5, Nat.le_of_eq q1.symm, fun b hb => q2 b (by omega)⟩, fun _ _ e => e, Nat.le_refl _, fun l hl => ⟨fun i b _ hb => q2 b ?_, rfl⟩⟩⟩
 ·intro p hp
  simp at hp; subst hp
  simp only [Rep]
  refine ⟨_, cap, rfl, hcap, (fun x => by cases x), fun ad' had => ?_⟩
  cases had
  refine ⟨hsp, (kP _ _ _).2 fun j v hj => ?_⟩
  by_cases hj1 : j < cs.length
  ·rw [List.getElem?_append_left hj1] at hj
   obtain ⟨a1, a2, c, a3, a4⟩ := (kP cs _ _).1 hC j v hj
   exact ⟨.inl a1, a2, c, by rw [hcellold _ _ a1]; exact a3, Rep.mono k (fun _ _ e => e) v c (V.noVia_of_single a2) a4⟩
  ·rw [List.getElem?_append_right (by omega)] at hj
   obtain ⟨hj2, _⟩ := List.getElem?_eq_some_iff.1 hj
   have hd : es[j - cs.length]? = some es[j - cs.length] := List.getElem?_eq_getElem (by omega)
   refine ⟨.inr ⟨rfl, by omega, by omega⟩, hs v (List.mem_of_getElem? hj), _, ?_, Rep.mono k (fun _ _ e => e) v _ (V.noVia_of_single (hs v (List.mem_of_getElem? hj))) (((aK us es).1 hr).2 _ v _ hj hd)⟩
   have := hnew _ _ hd
   rwa [show ad.off + n * sz + (j - cs.length) = ad.off + j by omega] at this
 ·intro t ht'
  have := htl2 t ht'
  subst this
  refine ⟨⟨carr', e, lo, hi, q6, by simpa [q7] using hsz, fun o ho ho' => hfz o (by simp only [Nat.add_mul] at ho; omega) (by omega)⟩, fun o ho x => ?_, hcap⟩
  simp only [Nat.add_mul] at ho
  rcases x with x | ⟨_, x1, x2⟩
  ·exact ht0.free o (by simp only; omega) x
  ·omega
 ·rintro rfl
  have := h.nodup ad.block
  have hc := mem_count hb
  simp only [aH, cJ, cU, bP, hcn, if_false, aS, List.map_append, List.map_cons, List.count_append, List.count_cons_self] at this
  omega
 ·rcases x with x | ⟨rfl, _⟩
  ·exact x
  ·exfalso
   have := h.nodup ad.block
   have hc := mem_count hb
   simp only [aH, cJ, cU, bP, hcn, if_false, aS, List.map_append, List.map_cons, List.count_append, List.count_cons_self] at this
   omega
 ·rintro rfl
  exact hnb (List.mem_of_getElem? hb)
end St
end Go.Abs
namespace Go.Abs
open Go.RowKit (Below)
set_option linter.unusedVariables false
set_option linter.unusedSimpArgs false
mutual
theorem xK {S bl w} : ∀ (v : V) (c : Value), okV c v = true → Rep S bl w v c
 | .bool b, c, h => by
   rw [okV.eq_def] at h; dsimp only at h; simp only [Rep]
   split at h <;> simp_all
 | .int k n, c, h => by
   rw [okV.eq_def] at h; dsimp only at h; simp only [Rep]
   split at h <;> simp_all
 | .str l, c, h => by
   rw [okV.eq_def] at h; dsimp only at h; simp only [Rep]
   split at h
   ·rename_i s; exact ⟨s, rfl, by simpa using h⟩
   ·cases h
 | .nilp, c, h => by
   rw [okV.eq_def] at h; dsimp only at h; simp only [Rep]
   split at h <;> simp_all
 | .nilf, c, h => by
   rw [okV.eq_def] at h; dsimp only at h; simp only [Rep]
   split at h <;> simp_all
 | .nili, c, h => by
   rw [okV.eq_def] at h; dsimp only at h; simp only [Rep]
   split at h <;> simp_all
 | .raw a b, c, h => by simp [okV] at h
 | .nls, c, h => by
   rw [okV.eq_def] at h; dsimp only at h; simp only [Rep]
   split at h <;> simp_all
 | .sl o n cs, c, h => by
   rw [okV.eq_def] at h; dsimp only at h; simp only [Rep]
   split at h
   ·simp only [Bool.and_eq_true, beq_iff_eq, List.isEmpty_iff] at h
    obtain ⟨⟨⟨rfl, rfl⟩, rfl⟩, rfl⟩ := h
    exact ⟨none, 0, rfl, Nat.le_refl _, fun _ => ⟨rfl, rfl, rfl⟩, fun ad e => by cases e⟩
   ·cases h
 | .agg l, c, h => by
   rw [okV.eq_def] at h; dsimp only at h; simp only [Rep]
   split at h
   ·rename_i cs
    obtain ⟨h1, h2⟩ := mZ (S := S) (bl := bl) (w := w) l cs.toList h
    exact ⟨cs, rfl, h1, h2⟩
   ·cases h
 | .tup l, c, h => by
   rw [okV.eq_def] at h; dsimp only at h; simp only [Rep]
   split at h
   ·rename_i cs
    simp only [Bool.and_eq_true, List.isEmpty_iff] at h
    exact ⟨cs, rfl, by rw [h.1, h.2]; simp only [RepL], by rw [h.2]; simp⟩
   ·cases h
 | .fn g l, c, h => by
   rw [okV.eq_def] at h; dsimp only at h; simp only [Rep]
   split at h
   ·rename_i f first caps
    simp only [Bool.and_eq_true, beq_iff_eq, List.isEmpty_iff] at h
    obtain ⟨⟨⟨rfl, h1⟩, h2⟩, rfl⟩ := h
    refine ⟨caps, ?_, by rw [h2]; simp only [RepL], by simp⟩
    have : first = #[] := by cases first; simp_all
    rw [this]
   ·cases h
 | .ptr .., c, h => by simp [okV] at h
 | .fp .., c, h => by simp [okV] at h
 | .via .., c, h => by simp [okV] at h
 | .ar .., c, h => by simp [okV] at h
 | .ifc .., c, h => by simp [okV] at h
theorem mZ {S bl w} : ∀ (vs : List V) (cs : List Value), S4 cs vs = true → RepL S bl w vs cs ∧ ∀ v ∈ vs, v.single = true
 | [], cs, h => by simp only [S4, List.isEmpty_iff] at h; simp [RepL, h]
 | v :: vs, [], h => by simp [S4] at h
 | v :: vs, c :: cs, h => by
   simp only [S4, Bool.and_eq_true] at h
   obtain ⟨⟨h1, h2⟩, h3⟩ := h
   obtain ⟨a1, a2⟩ := mZ (S := S) (bl := bl) (w := w) vs cs h3
   refine ⟨by simp only [RepL]; exact ⟨c, cs, rfl, xK v c h2, a1⟩, fun u hu => ?_⟩
   rcases List.mem_cons.1 hu with rfl | hu
   ·exact h1
   ·exact a2 u hu
end
theorem aCh (v : V) (c : Value) (h : okV c v = true) : bP v c = [] := by
 cases v <;> try rfl
 rename_i o n cs
 rw [okV.eq_def] at h; dsimp only at h
 split at h
 ·cases o <;> rfl
 ·cases h
theorem pN : ∀ (vs : List V) (cs : List Value), S4 cs vs = true → aT vs cs = []
 | [], cs, h => by cases cs <;> rfl
 | v :: vs, [], h => rfl
 | v :: vs, c :: cs, h => by
   simp only [S4, Bool.and_eq_true] at h
   simp only [aT, aCh v c h.1.2, pN vs cs h.2, List.append_nil]
theorem C2 (v : V) (c : Value) (h : okV c v = true) : cJ v c = [] := by
 cases v with
 | agg l =>
   rw [okV.eq_def] at h; dsimp only at h
   split at h
   ·rename_i cs; exact pN l cs.toList h
   ·cases h
 | tup l =>
   rw [okV.eq_def] at h; dsimp only at h
   split at h
   ·rename_i cs
    simp only [Bool.and_eq_true, List.isEmpty_iff] at h
    show lU l cs.toList = []
    rw [h.2]; rfl
   ·cases h
 | _ => exact aCh _ c h
section
variable {P : Program} {w : World}
theorem aO {t : TypeId} {d : TypeDesc} (h : P.underlying t = some d) : (underlying t).run P w = .ok d w := by simp [underlying, h]
theorem fJ {t : TypeId} {i : TypeInfo} (h : P.info? t = some i) : (typeInfo t).run P w = .ok i w := by simp [typeInfo, h]
theorem bT {t : TypeId} {n : Nat} (h : fP P t n = true) : (Go.sizeOf t).run P w = .ok n w := by
 unfold fP at h
 split at h
 ·rename_i i hi
  simp only [beq_iff_eq] at h
  simp [Go.sizeOf, fJ hi, h]
 ·cases h
theorem aCi {t : TypeId} {n : Nat} (h : lP P t n = true) : ∃ i, (typeInfo t).run P w = .ok i w ∧ i.bytes = n := by
 unfold lP at h
 split at h
 ·rename_i i hi
  simp only [beq_iff_eq] at h
  exact ⟨i, fJ hi, h⟩
 ·cases h
theorem rW {t : TypeId} {d : TypeDesc} (h : P.underlying t = some d) : (isAgg t).run P w = .ok (dQ P t) w := by
 unfold isAgg dQ
 simp only [Sem.run_bind, aO h, h]
 cases d <;> rfl
theorem sO {t : TypeId} {z : List V} (h : oI P t z = true) : ∃ c, (zeroValue t).run P w = .ok c w ∧ S4 c.cells.toList z = true := by
 unfold oI at h
 split at h
 ·rename_i c hc
  obtain ⟨i, hi, hz⟩ := Option.bind_eq_some_iff.1 hc
  exact ⟨c, by simp [zeroValue, fJ hi, hz], h⟩
 ·cases h
theorem aCj {t : TypeId} {z : V} (h : G5 P t z = true) : ∃ c, (zeroValue t).run P w = .ok c w ∧ okV c z = true := by
 unfold G5 at h
 split at h
 ·rename_i c hc
  obtain ⟨i, hi, hz⟩ := Option.bind_eq_some_iff.1 hc
  exact ⟨c, by simp [zeroValue, fJ hi, hz], h⟩
 ·cases h
end
def uY (P : Program) (lim : Option Nat) (B : Nat) (F : List Nat) (S : Nat → Nat → Prop) (bl : List Nat) (H : aB) (w : World) (r : V) (H' : aB) (x : Result Next) : Prop :=
 ∃ c w' S' bl', (x = .ok (.value c) w' ∨ (x = .ok .skip w' ∧ c = undef)) ∧ St lim B F S' bl' [(r, c)] H' w' ∧ Ext lim B F S bl H w S' bl' H' w'
section
variable {P : Program} {lim : Option Nat} {B : Nat} {F : List Nat} {S : Nat → Nat → Prop} {bl : List Nat} {vals : List (V × Value)} {H : aB} {w : World}
theorem St.nil (h : St lim B F S bl vals H w) : St lim B F S bl [] H w := h.sub (fun _ hp => by cases hp) (fun _ ht => by cases ht) fun x => by simp [aH, aS]
theorem aNb {r : V} {c : Value} (h : St lim B F S bl vals H w) (hr : Rep S bl w r c) (ht : cJ r c = []) : uY P lim B F S bl H w r H (.ok (.value c) w) :=
 ⟨c, w, S, bl, .inl rfl, h.nil.add0 hr ht, Ext.refl _ _ _ _ _ _ _⟩
theorem fN (S bl w) (k : IntKind) (n : Int) : Rep S bl w (.int k n) (.int k n) := by simp only [Rep]
theorem fY (S bl w) (b : Bool) : Rep S bl w (.bool b) (.bool b) := by simp only [Rep]
theorem aQe (S bl w) (a : ByteArray) : Rep S bl w (.str a.data.toList) (.string a) := by simp only [Rep]; exact ⟨a, rfl, rfl⟩
theorem aUg {op : BinOp} {k : IntKind} {a b : Int} {r : V} (h : iop op k a b = some r) : ∃ c, (binOp op 0 (.int k a) (.int k b)).run P w = .ok c w ∧ Rep S bl w r c ∧ cJ r c = [] := by
 cases op <;> simp only [iop] at h
 case add | sub | mul => cases h; exact ⟨_, by simp only [binOp, ne_eq, not_true_eq_false, if_false]; rfl, fN .., rfl⟩
 case quo | rem =>
  split at h
  ·cases h
  ·rename_i hb; cases h; exact ⟨_, by simp [binOp, Op.intDiv, hb], fN .., rfl⟩
 case and | or | xor | andNot => simp only [bits, Option.some.injEq] at h; subst h; exact ⟨_, by simp only [binOp, ne_eq, not_true_eq_false, if_false]; rfl, fN .., rfl⟩
 case eql | neq | lss | leq | gtr | geq => cases h; exact ⟨_, by simp only [binOp, ne_eq, not_true_eq_false, if_false]; rfl, fY .., rfl⟩
 case shl | shr =>
  split at h
  ·cases h
  ·rename_i hb; cases h; exact ⟨_, by simp only [binOp, Op.shift, if_neg hb]; rfl, fN .., rfl⟩
end
end Go.Abs
