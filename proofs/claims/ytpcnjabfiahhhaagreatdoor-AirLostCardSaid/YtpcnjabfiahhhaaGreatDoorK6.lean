/- A part of the proof of RowAirFits, RowAirHeard, RowAirOrder, RowAirLost: lemmas alone, without conditions. -/
import Derived.Test.YtpcnjabfiahhhaaGreatDoorK5
set_option linter.all false
namespace Go.Abs
open Go.RowKit (Below)
set_option linter.unusedVariables false
set_option linter.unusedSimpArgs false
section
variable {P : Program} {lim : Option Nat} {B : Nat} {F : List Nat} {S : Nat → Nat → Prop} {bl : List Nat} {vals : List (V × Value)} {H : aB} {w : World}
theorem iC (z : List V) : ∀ n, (kJ z n).length = n * z.length
 | 0 => by simp [kJ]
 | n + 1 => by simp [kJ, iC z n, Nat.add_mul]; omega
theorem Q6 (z : List V) : ∀ (n j : Nat), j < n * z.length → (kJ z n)[j]? = z[j % z.length]?
 | 0, j, h => by simp at h
 | n + 1, j, h => by
   simp only [kJ]
   by_cases hj : j < z.length
   ·rw [List.getElem?_append_left hj, Nat.mod_eq_of_lt hj]
   ·rw [List.getElem?_append_right (by omega), Q6 z n _ (by rw [Nat.add_mul] at h; omega)]
    congr 1
    conv => rhs; rw [show j = (j - z.length) + z.length by omega, Nat.add_mod_right]
theorem yX {z : List V} {Z : Array Value} {n sz : Nat} (h : RepL S bl w z Z.toList) (hl : z.length = sz) (hpos : 0 < n * sz → 0 < sz) : RepL S bl w (kJ z n) ((Array.range (n * sz)).map (Z[· % Z.size]!)).toList := by
 obtain ⟨h1, h2⟩ := (aK _ _).1 h
 have hZ : Z.size = sz := by rw [← Array.length_toList]; omega
 refine (aK _ _).2 ⟨by simp [iC, hl], fun j v c hv hc => ?_⟩
 obtain ⟨hj, _⟩ := List.getElem?_eq_some_iff.1 hv
 rw [iC, hl] at hj
 have hs := hpos (by omega)
 rw [Q6 z n j (by rw [hl]; exact hj), hl] at hv
 have hm : j % sz < sz := Nat.mod_lt _ hs
 simp only [Array.toList_map, Array.toList_range, List.getElem?_map, List.getElem?_range hj, Option.map_some, Option.some.injEq] at hc
 refine h2 (j % sz) v c hv ?_
 rw [← hc, hZ, getElem!_pos _ _ (by omega), Array.getElem?_toList, Array.getElem?_eq_getElem (by omega)]
theorem kN {z : List V} (h : ∀ v ∈ z, v.single = true) : ∀ n, ∀ v ∈ kJ z n, v.single = true
 | 0, v, hv => by simp [kJ] at hv
 | n + 1, v, hv => by
   simp only [kJ, List.mem_append] at hv
   exact hv.elim (h v) (kN h n v)
theorem aBi {z : List V} {Z : Array Value} {n sz : Nat} (h : S4 Z.toList z = true) (hl : z.length = sz) : aT (kJ z n) ((Array.range (n * sz)).map (Z[· % Z.size]!)).toList = [] := by
 obtain ⟨r1, r2⟩ := mZ (S := fun _ _ => False) (bl := []) (w := default) z Z.toList h
 by_cases hp : 0 < n * sz → 0 < sz
 ·have hrep := yX (n := n) r1 hl hp
  have key : ∀ (vs : List V) (cs : List Value), (∀ (j : Nat) v c, vs[j]? = some v → cs[j]? = some c → bP v c = []) → aT vs cs = [] := by
   intro vs
   induction vs with
   | nil => intro cs _; rfl
   | cons v vs ih =>
     intro cs hh
     cases cs with
     | nil => rfl
     | cons c cs =>
       simp only [aT, hh 0 v c rfl rfl, List.nil_append]
       exact ih cs fun j u d hu hd => hh (j + 1) u d (by simpa using hu) (by simpa using hd)
  refine key _ _ fun j v c hv hc => ?_
  obtain ⟨hj, _⟩ := List.getElem?_eq_some_iff.1 hv
  rw [iC, hl] at hj
  have hs := hp (by omega)
  have hm : j % sz < sz := Nat.mod_lt _ hs
  have hZ : Z.size = sz := by rw [← Array.length_toList]; have := ((aK _ _).1 r1).1; omega
  rw [Q6 z n j (by rw [hl]; exact hj), hl] at hv
  simp only [Array.toList_map, Array.toList_range, List.getElem?_map, List.getElem?_range hj, Option.map_some, Option.some.injEq] at hc
  have hc2 : Z.toList[j % sz]? = some c := by
   rw [← hc, hZ, getElem!_pos _ _ (by omega), Array.getElem?_toList, Array.getElem?_eq_getElem (by omega)]
  have e0 := pN z Z.toList h
  have := (H7 hv hc2).1
  rw [e0] at this
  cases ht : bP v c with
  | nil => rfl
  | cons t ts => exact absurd (this t (by rw [ht]; simp)) (by simp)
 ·exfalso; apply hp; intro hx
  rcases Nat.eq_zero_or_pos sz with h0 | h0
  ·subst h0; simp at hx
  ·exact h0
theorem aBj {n sz : Nat} (h : 0 < n * sz) : 0 < sz := by
 rcases Nat.eq_zero_or_pos sz with h0 | h0
 ·subst h0; simp at h
 ·exact h0
theorem aKy {t e sz n : Nat} {zero : List V} {offs : List Nat} {ps : List (Nat × Value)} {vs r : List V} (h : St lim B F S bl (vs.zip (ps.map (·.2))) H w) (hB : B ≤ w.heap.size) (hvs : RepL S bl w vs (ps.map (·.2)))
 (ht : P.underlying t = some (.slice e)) (hsz : fP P e sz = true) (hz : if n * sz = 0 then zero.isEmpty = true else oI P e zero = true ∧ zero.length = sz)
 (hp : ps.map (fun p => (some (p.1 * sz, sz) : Option (Nat × Nat))) = (offs.map (·, sz)).map some) (hle : n * sz ≤ 16777216) (hr : aW (kJ zero n) (offs.map (·, sz)) vs = some r) :
 uY P lim B F S bl H w (.sl (some sz) n (r.map V.dis1)) H ((do pure (.value (← Instr.buildSlice t n ps.toArray)) : Sem Next).run P w) := by
 have hZ : ∃ Z : Array Value, ((n * sz = 0 ∧ Z = #[]) ∨ (¬ n * sz = 0 ∧ ∃ z, (zeroValue e).run P w = .ok z w ∧ Z = z.cells)) ∧ RepL S bl w (kJ zero n) ((Array.range (n * sz)).map (Z[· % Z.size]!)).toList ∧ (∀ v ∈ kJ zero n, v.single = true) := by
  by_cases h0 : n * sz = 0
  ·rw [if_pos h0] at hz
   refine ⟨#[], .inl ⟨h0, rfl⟩, ?_, ?_⟩
   ·have : zero = [] := by simpa using hz
    subst this
    have : kJ [] n = [] := List.length_eq_zero_iff.1 (by simp [iC])
    rw [this, h0]; simp [RepL]
   ·have : zero = [] := by simpa using hz
    subst this
    exact kN (by simp) n
  ·rw [if_neg h0] at hz
   obtain ⟨z, hz1, hz2⟩ := sO (w := w) hz.1
   obtain ⟨z3, z4⟩ := mZ (S := S) (bl := bl) (w := w) zero z.cells.toList hz2
   exact ⟨z.cells, .inr ⟨h0, z, hz1, rfl⟩, yX z3 hz.2 (fun hx => aBj hx), kN z4 n⟩
 obtain ⟨Z, hZ1, hZ2, hZ3⟩ := hZ
 obtain ⟨cells, d1, d2, d3, d4, d5⟩ := wL (S := S) (bl := bl) (w := w) (place := fun i => some (i * sz, sz)) _ ps vs _ r _ hp hvs hZ2 hZ3 hr
 have hlen : r.length = n * sz := by
  rw [A5 hr, iC]
  by_cases h0 : n * sz = 0
  ·rw [if_pos h0] at hz
   have : zero = [] := by simpa using hz
   subst this; simp [h0]
  ·rw [if_neg h0] at hz; rw [hz.2]
 have hcl : cells.size = n * sz := by rw [← Array.length_toList, ← ((aK _ _).1 d2).1, hlen]
 obtain ⟨S', g1, g2⟩ := h.nil.newSl (e := e) (lo := 0) (hi := 0) (n := n) (cap := n) (sz := sz) (ex := []) hB d2.dis1 (fun v hv => by obtain ⟨u, hu, rfl⟩ := List.mem_map.1 hv; exact V.dis1_single (d3 u hu)) (carr := cells) (by simp) (fun o _ => by omega) (by simp [hlen]) ⟨Nat.le_refl _, by omega⟩
 refine ⟨_, _, S', bl, .inl ?_, g1, g2⟩
 simp only [Instr.buildSlice, Sem.run_bind, aO ht, Result.andThen_ok, bT hsz, Sem.run_ite]
 rw [if_neg (by omega)]
 rcases hZ1 with ⟨h0, rfl⟩ | ⟨h0, z, hz1, rfl⟩
 ·rw [if_pos h0]
  simp only [Sem.run_bind, Sem.run_pure, Result.andThen_ok, d1, newRow, run_newObj]
 ·rw [if_neg h0]
  simp only [Sem.run_bind, Sem.run_pure, Result.andThen_ok, hz1, d1, newRow, run_newObj]
theorem aKz {t e sz bytes : Nat} {zero : List V} {p q r : V} {H' : aB} {a b : Value} (h : St lim B F S bl [(p, a), (q, b)] H w) (hB : B ≤ w.heap.size) (ht : P.underlying t = some (.slice e)) (hsz : fP P e sz = true) (hby : lP P e bytes = true)
 (hz : oI P e zero = true) (hzl : zero.length = sz) (hpos : 0 < sz) (hr : aHn sz bytes zero H [p, q] = some (r, H')) : uY P lim B F S bl H w r H' ((do pure (.value (← Instr.makeSlice t a b)) : Sem Next).run P w) := by
 have h1 : Rep S bl w p a := h.rep _ (List.mem_cons_self ..)
 have h2 : Rep S bl w q b := h.rep (q, b) (by simp)
 cases p <;> try (simp [aHn] at hr; done)
 rename_i k l
 cases q <;> try (simp [aHn] at hr; done)
 rename_i j c
 simp only [aHn] at hr
 split at hr
 ·rename_i hc
  cases hr
  obtain ⟨c1, c2, c3, c4⟩ := hc
  obtain rfl := h1.int_inv
  obtain rfl := h2.int_inv
  obtain ⟨z, hz1, hz2⟩ := sO (w := w) hz
  obtain ⟨i, hi1, hi2⟩ := aCi (w := w) hby
  obtain ⟨z3, z4⟩ := mZ (S := S) (bl := bl) (w := w) zero z.cells.toList hz2
  have wl : IntKind.i64.wrap l = l := by unfold IntKind.wrap; simp [IntKind.bits, IntKind.signed]; omega
  have wc : IntKind.i64.wrap c = c := by unfold IntKind.wrap; simp [IntKind.bits, IntKind.signed]; omega
  have hrow : ((Array.range (c.toNat * sz)).map (z.cells[· % z.cells.size]!)).toList = ((Array.range (c.toNat * sz)).map (z.cells[· % z.cells.size]!)).toList ++ [] := by simp
  have e0 := aBi (n := c.toNat) hz2 hzl
  obtain ⟨g1, g2⟩ := R7 (e := e) h.nil hB (yX (n := c.toNat) z3 hzl (fun _ => hpos)) (kN z4 _) (by rw [e0]; intro _ k; cases k) (by rw [e0]; intro x; simp [aS]) hrow
  refine ⟨.slice (some ⟨w.heap.size, 0, none⟩) l.toNat c.toNat, _, _, _, .inl ?_, g1.add0 ?_ rfl, g2⟩
  ·have hn0 : ¬ c.toNat * sz = 0 ∨ c.toNat * sz = 0 := by omega
   simp only [Instr.makeSlice, Sem.run_bind, aO ht, Result.andThen_ok, asInt, asIntOf, Sem.run_pure, hi1, wl, wc, hi2]
   have hcond : (decide (c < 0) || decide ((bytes : Int) * c > 2 ^ 48) || decide (l < 0) || decide (l > c)) = false := by
    simp only [Bool.or_eq_false_iff, decide_eq_false_iff_not]
    refine ⟨⟨⟨by omega, ?_⟩, by omega⟩, by omega⟩
    have : (2:Int)^48 = 281474976710656 := by decide
    omega
   simp only [Bool.or_assoc] at hcond ⊢
   rw [hcond]
   simp only [Bool.false_eq_true, if_false, Sem.run_bind, run_askRoom, Result.andThen_ok, bT hsz]
   by_cases h0 : c.toNat * sz = 0
   ·have hc0 : c.toNat = 0 := by
     rcases Nat.mul_eq_zero.1 h0 with x | x
     ·exact x
     ·omega
    have hr0 : Array.range 0 = #[] := rfl
    simp [h0, newRow, hr0]
   ·simp only [h0, if_false, Sem.run_bind, hz1, Result.andThen_ok, Sem.run_pure, newRow, run_newObj]
  ·simp only [Rep]; exact ⟨w.heap.size, c.toNat, by rw [h.len]; simp, ⟨by omega, Nat.le_refl _⟩, rfl, _, _, _, sV, by simp⟩
 ·cases hr
theorem aL0 {t e sz bytes : Nat} {zero : List V} {p q r : V} {a b : Value} (h : St lim B F S bl [(p, a), (q, b)] H w) (hB : B ≤ w.heap.size) (ht : P.underlying t = some (.slice e)) (hsz : fP P e sz = true) (hby : lP P e bytes = true)
 (hz : oI P e zero = true) (hzl : zero.length = sz) (hpos : 0 < sz) (hr : aDv sz bytes zero [p, q] = some r) : uY P lim B F S bl H w r H ((do pure (.value (← Instr.makeSlice t a b)) : Sem Next).run P w) := by
 have h1 : Rep S bl w p a := h.rep _ (List.mem_cons_self ..)
 have h2 : Rep S bl w q b := h.rep (q, b) (by simp)
 cases p <;> try (simp [aDv] at hr; done)
 rename_i k l
 cases q <;> try (simp [aDv] at hr; done)
 rename_i j c
 simp only [aDv] at hr
 split at hr
 ·rename_i hc
  cases hr
  obtain ⟨c1, c2, c3, c4⟩ := hc
  obtain rfl : c = l := c2.symm
  obtain rfl := h1.int_inv
  obtain rfl := h2.int_inv
  obtain ⟨z, hz1, hz2⟩ := sO (w := w) hz
  obtain ⟨i, hi1, hi2⟩ := aCi (w := w) hby
  obtain ⟨z3, z4⟩ := mZ (S := S) (bl := bl) (w := w) zero z.cells.toList hz2
  have wc : IntKind.i64.wrap c = c := by unfold IntKind.wrap; simp [IntKind.bits, IntKind.signed]; omega
  have hrow : ((Array.range (c.toNat * sz)).map (z.cells[· % z.cells.size]!)).toList = ((Array.range (c.toNat * sz)).map (z.cells[· % z.cells.size]!)).toList ++ [] := by simp
  obtain ⟨S', g1, g2⟩ := h.nil.newSl (e := e) (lo := 0) (hi := 0) (n := c.toNat) (cap := c.toNat) (sz := sz) (ex := []) hB (yX (n := c.toNat) z3 hzl (fun _ => hpos)).dis1 (fun v hv => by obtain ⟨u, hu, rfl⟩ := List.mem_map.1 hv; exact V.dis1_single (kN z4 _ u hu)) hrow (fun o _ => by omega) (by rw [List.length_map, iC, hzl]) ⟨Nat.le_refl _, by simp⟩
  refine ⟨_, _, S', bl, .inl ?_, g1, g2⟩
  ·have hn0 : ¬ c.toNat * sz = 0 ∨ c.toNat * sz = 0 := by omega
   simp only [Instr.makeSlice, Sem.run_bind, aO ht, Result.andThen_ok, asInt, asIntOf, Sem.run_pure, hi1, wc, hi2]
   have hcond : (decide (c < 0) || decide ((bytes : Int) * c > 2 ^ 48) || decide (c < 0) || decide (c > c)) = false := by
    simp only [Bool.or_eq_false_iff, decide_eq_false_iff_not]
    refine ⟨⟨⟨by omega, ?_⟩, by omega⟩, by omega⟩
    have : (2:Int)^48 = 281474976710656 := by decide
    omega
   simp only [Bool.or_assoc] at hcond ⊢
   rw [hcond]
   simp only [Bool.false_eq_true, if_false, Sem.run_bind, run_askRoom, Result.andThen_ok, bT hsz]
   by_cases h0 : c.toNat * sz = 0
   ·have hc0 : c.toNat = 0 := by
     rcases Nat.mul_eq_zero.1 h0 with x | x
     ·exact x
     ·omega
    have hr0 : Array.range 0 = #[] := rfl
    simp [h0, newRow, hr0]
   ·simp only [h0, if_false, Sem.run_bind, hz1, Result.andThen_ok, Sem.run_pure, newRow, run_newObj]
 ·cases hr
theorem aBk (newLen : Nat) : ∀ (r c : Nat), 256 ≤ c → c ≤ 2 * newLen → Builtin.growBy newLen r c ≤ 2 * newLen
 | 0, c, _, h => by simpa [Builtin.growBy] using h
 | r + 1, c, hc, h => by
   unfold Builtin.growBy
   split
   ·exact h
   ·exact aBk newLen r _ (by omega) (by omega)
theorem qS {need cap : Nat} (h : cap < need) : Builtin.nextslicecap need cap ≤ 2 * need := by
 unfold Builtin.nextslicecap
 split
 ·omega
 ·split
  ·omega
  ·exact aBk need 4 cap (by omega) (by omega)
theorem vO {sz m : Nat} {x : V} {b : Value} {us : List V} (h : St lim B F S bl vals H w) (hx : Rep S bl w x b) (ht : sQ sz x H = some (m, us)) :
 us.length = m * sz ∧ (∀ v ∈ us, v.single = true) ∧ ∃ es : List Value, RepL S bl w us es ∧ (Builtin.lenOf b).run P w = .ok m w ∧ (Builtin.firstCells sz m b).run P w = .ok es.toArray w := by
 cases x <;> try (simp [sQ] at ht; done)
 ·rename_i l
  simp only [sQ] at ht
  split at ht
  ·rename_i hs
   subst hs
   cases ht
   obtain rfl := hx.str_inv
   refine ⟨by simp, fun v hv => by obtain ⟨u, _, rfl⟩ := List.mem_map.1 hv; rfl, l.map (fun c => .int .u8 c.toNat), ?_, ?_, ?_⟩
   ·have : ∀ l : List UInt8, RepL S bl w (l.map fun c => V.int .u8 c.toNat) (l.map fun c => Value.int .u8 c.toNat) := by
     intro l
     induction l with
     | nil => simp [RepL]
     | cons c l ih => simp only [List.map_cons, RepL]; exact ⟨_, _, rfl, fN .., ih⟩
    exact this l
   ·simp [Builtin.lenOf, ByteArray.size]
   ·simp [Builtin.firstCells, ByteArray.extract, ByteArray.copySlice]
  ·cases ht
 ·rename_i own n ds
  simp only [sQ] at ht
  split at ht
  ·rename_i hs
   cases ht
   simp only [Rep] at hx
   obtain ⟨ad, cap, rfl, hle, hnil, hC⟩ := hx
   cases ad with
   | none =>
     obtain ⟨rfl, rfl, rfl⟩ := hnil rfl
     exact ⟨hs, by simp, [], by simp [RepL], rfl, rfl⟩
   | some ad =>
     obtain ⟨s1, s2⟩ := hC ad rfl
     obtain ⟨es, a1, a2, a3⟩ := s2.cells
     refine ⟨hs, a3, es, a1, rfl, ?_⟩
     simp only [Builtin.firstCells]
     have hl2 := ((aK _ _).1 a1).1
     by_cases hc0 : cap = 0
     ·obtain rfl : m = 0 := by omega
      rw [Nat.zero_mul] at hs ⊢
      obtain rfl : es = [] := List.length_eq_zero_iff.1 (by omega)
      exact oL
     ·rw [kS (s1 hc0)]
      exact eA P (by omega) fun j c hj => (a2 j c hj).1
  ·cases ht
 ·rename_i sz' id off n k
  simp only [sQ, Option.map_eq_some_iff] at ht
  obtain ⟨ds, hds, e⟩ := ht
  cases e
  simp only [Rep] at hx
  obtain ⟨bb, cap, hb, hle, rfl, _⟩ := hx
  obtain ⟨hl, es, a1, a2, a3⟩ := h.cells hds hb
  refine ⟨by simpa using hl, fun v hv => by obtain ⟨u, hu, rfl⟩ := List.mem_map.1 hv; exact V.dis1_single (a3 u hu), es, a1.dis1, rfl, ?_⟩
  simp only [Builtin.firstCells]
  exact eA P (by have := ((aK _ _).1 a1).1; omega) a2
 ·simp only [sQ] at ht
  cases ht
  simp only [Rep] at hx
  subst hx
  exact ⟨by simp, by simp, [], by simp [RepL], rfl, rfl⟩
theorem aJ9 {sz m k : Nat} {x : V} {b : Value} {us : List V} (h : St lim B F S bl vals H w) (hx : Rep S bl w x b) (ht : sQ sz x H = some (m, us)) (hk : k ≤ m) (hns : ∀ l, x ≠ .str l) :
 us.length = m * sz ∧ (∀ v ∈ us, v.single = true) ∧ ∃ es : List Value, RepL S bl w (us.take (k * sz)) es ∧ (Builtin.lenOf b).run P w = .ok m w ∧ (Builtin.firstCells sz k b).run P w = .ok es.toArray w := by
 have hkm : k * sz ≤ m * sz := Nat.mul_le_mul_right _ hk
 have cut : ∀ {us : List V} {es : List Value}, us.length = m * sz → RepL S bl w us es → RepL S bl w (us.take (k * sz)) (es.take (k * sz)) ∧ (es.take (k * sz)).length = k * sz := by
  intro us es hl hr
  obtain ⟨r1, r2⟩ := (aK _ _).1 hr
  refine ⟨(aK _ _).2 ⟨by simp [r1], fun j v c hv hc => ?_⟩, by simp; omega⟩
  rw [List.getElem?_take] at hv hc
  split at hv
  ·rename_i hj; rw [if_pos hj] at hc; exact r2 j v c hv hc
  ·cases hv
 cases x <;> try (simp [sQ] at ht; done)
 ·exact absurd rfl (hns _)
 ·rename_i own n ds
  simp only [sQ] at ht
  split at ht
  ·rename_i hs
   cases ht
   simp only [Rep] at hx
   obtain ⟨ad, cap, rfl, hle, hnil, hC⟩ := hx
   cases ad with
   | none =>
     obtain ⟨rfl, rfl, rfl⟩ := hnil rfl
     exact ⟨hs, by simp, [], by simp [RepL], rfl, rfl⟩
   | some ad =>
     obtain ⟨s1, s2⟩ := hC ad rfl
     obtain ⟨es, a1, a2, a3⟩ := s2.cells
     obtain ⟨c1, c2⟩ := cut hs a1
     refine ⟨hs, a3, es.take (k * sz), c1, rfl, ?_⟩
     simp only [Builtin.firstCells]
     by_cases hc0 : cap = 0
     ·obtain rfl : m = 0 := by omega
      obtain rfl : k = 0 := by omega
      rw [Nat.zero_mul]
      exact oL
     ·rw [kS (s1 hc0)]
      exact eA P c2 fun j c hj => (a2 j c (by rw [List.getElem?_take] at hj; split at hj; exact hj; cases hj)).1
  ·cases ht
 ·rename_i sz' id off n k'
  simp only [sQ, Option.map_eq_some_iff] at ht
  obtain ⟨ds, hds, e⟩ := ht
  cases e
  simp only [Rep] at hx
  obtain ⟨bb, cap, hb, hle, rfl, _⟩ := hx
  obtain ⟨hl, es, a1, a2, a3⟩ := h.cells hds hb
  obtain ⟨c1, c2⟩ := cut (us := ds.map V.dis1) (by simpa using hl) a1.dis1
  refine ⟨by simpa using hl, fun v hv => by obtain ⟨u, hu, rfl⟩ := List.mem_map.1 hv; exact V.dis1_single (a3 u hu), es.take (k * sz), c1, rfl, ?_⟩
  simp only [Builtin.firstCells]
  exact eA P c2 fun j c hj => a2 j c (by rw [List.getElem?_take] at hj; split at hj; exact hj; cases hj)
 ·simp only [sQ] at ht
  cases ht
  simp only [Rep] at hx
  subst hx
  obtain rfl : k = 0 := by omega
  exact ⟨by simp, by simp, [], by simp [RepL], rfl, rfl⟩
theorem St.drew (h : St lim B F S bl vals H w) : St lim B F S bl vals H { w with drawn := w.drawn + 1 } ∧ Ext lim B F S bl H w S bl H { w with drawn := w.drawn + 1 } :=
 ⟨h.world (Nat.le_refl _) (fun _ _ => rfl) ⟨fun _ _ x => x, fun _ _ _ => rfl, fun _ _ x => x⟩ fun b o x => .inl x,
  ⟨⟨fun _ _ x => x, fun _ _ _ => rfl, fun _ _ x => x⟩, fun _ _ => ⟨rfl, fun _ x => x⟩, ⟨rfl, rfl, rfl, Nat.le_refl _, fun _ _ => rfl⟩, fun _ _ e => e, Nat.le_refl _, fun _ _ => ⟨fun _ _ _ _ => rfl, rfl⟩⟩⟩
theorem Q7 {t : TypeId} {n : Nat} (h : lP P t n = true) : ∃ i, P.info? t = some i ∧ i.bytes = n := by
 unfold lP at h
 split at h
 ·rename_i i hi; simp only [beq_iff_eq] at h; exact ⟨i, hi, h⟩
 ·cases h
theorem aL1 {e z n m newCap : Nat} {zz : Value} {rest : Array Value} {cs us : List V} {os es : List Value} {w' : World} (hz : (zeroValue e).run P w' = .ok zz w') (hsz : zz.cells.size = z) (hrest : Builtin.zeroCells zz.cells (newCap - (n + m)) = rest)
 (o1 : RepL S bl w' cs os) (f1 : RepL S bl w' us es) (hcs : cs.length = n * z) (hum : us.length = m * z) (hnc : n + m ≤ newCap) : newCap * z ≤ (os.toArray ++ es.toArray ++ rest).size := by
 have a1 := ((aK _ _).1 o1).1
 have a2 := ((aK _ _).1 f1).1
 have a3 : rest.size = (newCap - (n + m)) * z := by rw [← hrest, ← hsz]; simp [Builtin.zeroCells]
 have a4 : newCap * z = (n + m) * z + (newCap - (n + m)) * z := by rw [← Nat.add_mul]; congr 1; omega
 simp only [Array.size_append, List.size_toArray, a3]
 rw [a4, Nat.add_mul]
 omega
theorem aGj {t u e sz bytes : Nat} {d : TypeDesc} {ats : Array TypeId} {ty : TypeId} {s x r : V} {a b : Value} (h : St lim B F S bl [(s, a), (x, b)] H w) (hB : B ≤ w.heap.size)
 (h0 : ats[0]? = some t) (h1 : ats[1]? = some u) (ht : P.underlying t = some (.slice e)) (hu : P.underlying u = some d) (hd : ∀ k, d ≠ .int k) (hsz : fP P e sz = true) (hby : lP P e bytes = true) (hpos : 0 < sz) (hbpos : 0 < bytes)
 (hzero2 : ∀ w', ∃ z, (zeroValue e).run P w' = .ok z w' ∧ z.cells.size = sz) (hr : eQ sz bytes s x H = some r) :
 ∃ c w' S', (Builtin.append_ ats ty #[a, b]).run P w = .ok c w' ∧ St lim B F S' bl [(r, c)] H w' ∧ Ext lim B F S bl H w S' bl H w' := by
 have hs : Rep S bl w s a := h.rep _ (List.mem_cons_self ..)
 have hx : Rep S bl w x b := h.rep (x, b) (by simp)
 cases s <;> try (simp [eQ] at hr; done)
 rename_i own n cs
 cases own with
 | none => simp [eQ] at hr
 | some z =>
   simp only [eQ] at hr
   split at hr
   ·rename_i hzn
    obtain ⟨rfl, hcs⟩ := hzn
    simp only [Option.bind_eq_some_iff] at hr
    obtain ⟨⟨m, us⟩, htl, hr⟩ := hr
    split at hr
    ·rename_i hroom
     cases hr
     simp only at hroom ⊢
     obtain ⟨hum, husng, es, e1, e2, e3⟩ := vO (P := P) h hx htl
     have hue := ((aK us es).1 e1).1
     have hs0 := hs
     simp only [Rep] at hs
     obtain ⟨ad, cap, rfl, hle, hnil, hC⟩ := hs
     obtain ⟨i, hinfo, hi2⟩ := Q7 hby
     have hneed : n + m ≤ 140737488355328 := by
      have h1 : (n + m) * 1 ≤ (n + m) * bytes := Nat.mul_le_mul_left _ hbpos
      unfold room at hroom; omega
     have harr0 : (#[Value.slice ad n cap, b] : Array Value)[0]? = some (.slice ad n cap) := rfl
     have harr1 : (#[Value.slice ad n cap, b] : Array Value)[1]? = some b := rfl
     by_cases hcap : n + m ≤ cap
     ·
      cases ad with
      | none =>
        obtain ⟨rfl, rfl, rfl⟩ := hnil rfl
        have hm0 : m = 0 := by omega
        subst hm0
        have hu0 : us = [] := List.length_eq_zero_iff.1 (by rw [hum]; simp)
        subst hu0
        refine ⟨.slice none 0 0, w, S, ?_, h.nil.add0 (xK (.sl (some z) (0 + 0) ([] ++ [])) (.slice none 0 0) rfl) rfl, Ext.refl _ _ _ _ _ _ _⟩
        simp only [Builtin.append_, h0, h1, harr0, harr1, Sem.run_bind, aO ht, Result.andThen_ok, bT hsz]
        simp only [Sem.run_bind, aO hu, Result.andThen_ok, Sem.run_pure]
        have hd' : (match d with | .int _ => true | _ => false) = false := by cases d <;> first | rfl | exact absurd rfl (hd _)
        simp only [hd', Bool.false_eq_true, if_false, e2, Result.andThen_ok, Nat.zero_add, Nat.le_refl, if_true, Bool.not_false, e3, Sem.run_bind, Sem.run_pure]
      | some ad =>
        obtain ⟨s1, s2⟩ := hC ad rfl
        obtain ⟨S', g1, g2⟩ := St.appendIn (vals := [(x, b)]) h e1 husng hcs hum hcap
        refine ⟨.slice (some ad) (n + m) cap, _, S', ?_, g1.sub (fun p hp => by simp at hp; subst hp; simp) (fun t ht => by simp only [aH, List.append_nil] at ht ⊢; exact List.mem_append_left _ ht) (fun q => by simp only [aH, aS, List.map_append, List.count_append]; simp), g2⟩
        have hstore : (storeCells (ad.add (n * z)) es 0).run P w = .ok () (bS w ad.block (ad.off + n * z) es) := by
         by_cases hm : es = []
         ·subst hm; simp [storeCells, bS]
         ·rw [kS (s1 (by
           rintro rfl
           obtain rfl : m = 0 := by omega
           have := ((aK _ _).1 e1).1
           rw [hum, Nat.zero_mul] at this
           exact hm (List.length_eq_zero_iff.1 this.symm))), add_none]
          have hes : 0 < es.length := List.length_pos_iff.2 hm
          have hncap : ¬ cap ≤ n := by
           intro hx'
           have : m = 0 := by omega
           subst this
           omega
          have ht0 := (h.tip ⟨ad.block, ad.off, n, cap, z⟩ (.inl (by simp [aH, cJ, cU, bP, hncap]))).1
          obtain ⟨carr, e', lo, hi, q1, q2, q3⟩ := ht0.ex
          simp only at q1 q2 q3
          have hmul : (n + m) * z ≤ cap * z := Nat.mul_le_mul_right z hcap
          rw [Nat.add_mul] at hmul
          have := eF P (b := ad.block) (o := ad.off + n * z) es 0 w carr e' lo hi q1 (by omega) (fun j hj hj' => q3 j (by omega) hj') (e1.oneCell husng)
          rwa [Nat.add_zero] at this
        simp only [Builtin.append_, h0, h1, harr0, harr1, Sem.run_bind, aO ht, Result.andThen_ok, bT hsz]
        simp only [Sem.run_bind, aO hu, Result.andThen_ok, Sem.run_pure]
        have hd' : (match d with | .int _ => true | _ => false) = false := by cases d <;> first | rfl | exact absurd rfl (hd _)
        simp only [hd', Bool.false_eq_true, if_false, e2, Result.andThen_ok, hcap, if_true, Bool.not_false, e3, Sem.run_bind, hstore, Sem.run_pure]
     ·
      obtain ⟨h', hx0⟩ := h.drew
      obtain ⟨_, _, es', f1, f2, f3⟩ := vO (P := P) h' (show Rep S bl _ x b from h'.rep (x, b) (by simp)) htl
      obtain ⟨zz, hz, hzsz⟩ := hzero2 { w with drawn := w.drawn + 1 }
      have hold : ∃ os : List Value, RepL S bl { w with drawn := w.drawn + 1 } cs os ∧ (∀ v ∈ cs, v.single = true) ∧ (Builtin.firstCells z n (.slice ad n cap)).run P { w with drawn := w.drawn + 1 } = .ok os.toArray { w with drawn := w.drawn + 1 } := by
       have hs1 := h'.rep (.sl (some z) n cs, .slice ad n cap) (List.mem_cons_self ..)
       simp only [Rep] at hs1
       obtain ⟨ad', cap', he, _, hnil', hC'⟩ := hs1
       cases he
       cases ad with
       | none =>
         obtain ⟨rfl, rfl, rfl⟩ := hnil' rfl
         exact ⟨[], by simp [RepL], by simp, rfl⟩
       | some ad =>
         obtain ⟨s1, s2⟩ := hC' ad rfl
         obtain ⟨os, a1, a2, a3⟩ := s2.cells
         refine ⟨os, a1, a3, ?_⟩
         simp only [Builtin.firstCells]
         have hl2 := ((aK _ _).1 a1).1
         by_cases hc0 : cap = 0
         ·obtain rfl : n = 0 := by omega
          rw [Nat.zero_mul] at hcs ⊢
          obtain rfl : os = [] := List.length_eq_zero_iff.1 (by omega)
          exact oL
         ·rw [kS (s1 hc0)]
          exact eA P (by omega) fun j c hj => (a2 j c hj).1
      obtain ⟨os, o1, o2, o3⟩ := hold
      generalize hq : (Question.appendCap (n + m) cap e).cut (w.tape w.drawn (Question.appendCap (n + m) cap e)) = newCap
      have hnc : n + m ≤ newCap := by rw [← hq]; simp only [Question.cut]; omega
      have hcl : (cs ++ us).length = (n + m) * z := by rw [List.length_append, hcs, hum, Nat.add_mul]
      generalize hrest : (Builtin.zeroCells zz.cells (newCap - (n + m))) = rest
      have hrow : (os.toArray ++ es'.toArray ++ rest).toList = (os ++ es') ++ rest.toList := by simp
      obtain ⟨S', g1, g2⟩ := h'.nil.newSl (e := e) (lo := 0) (hi := 0) (n := n + m) (cap := newCap) (sz := z) hB (kQ o1 f1) (fun v hv => (List.mem_append.1 hv).elim (o2 v) (husng v)) hrow (fun o _ => by omega) hcl ⟨hnc, aL1 hz hzsz hrest o1 f1 hcs hum hnc⟩
      refine ⟨_, _, S', ?_, g1, hx0.trans g2⟩
      simp only [Builtin.append_, h0, h1, harr0, harr1, Sem.run_bind, aO ht, Result.andThen_ok, bT hsz]
      simp only [Sem.run_bind, aO hu, Result.andThen_ok, Sem.run_pure]
      have hd' : (match d with | .int _ => true | _ => false) = false := by cases d <;> first | rfl | exact absurd rfl (hd _)
      have hns : ¬ (Builtin.nextslicecap (n + m) cap * i.bytes > 2 ^ 48) := by
       have h1 := qS (need := n + m) (cap := cap) (by omega)
       have h2 : Builtin.nextslicecap (n + m) cap * bytes ≤ 2 * (n + m) * bytes := Nat.mul_le_mul_right _ h1
       rw [Nat.mul_assoc] at h2
       rw [hi2]
       unfold room at hroom
       omega
      have hb0 : ¬ (i.bytes = 0) := by omega
      simp only [hd', Bool.false_eq_true, if_false, e2, Result.andThen_ok, hcap, Bool.not_false, if_true, Sem.run_bind, fJ hinfo, hb0, or_self, and_false, hns, run_choose, Question.forced, hq, run_askRoom, o3, f3, hz, hrest, newRow, run_newObj, Sem.run_pure]
    ·cases hr
   ·cases hr
end
end Go.Abs
namespace Go.Abs
open Go.RowKit (Below)
set_option linter.unusedVariables false
section
variable {P : Program} {lim : Option Nat} {B : Nat} {F : List Nat} {S : Nat → Nat → Prop} {bl : List Nat} {vals : List (V × Value)} {H : aB} {w : World}
theorem aLo {cs xs : List V} {o : Nat} {v : V} (h : o < cs.length) : fB (cs.set o v) (o + 1) xs = fB cs o (v :: xs) := by
 unfold fB
 have h1 : (cs.set o v).take (o + 1) = cs.take o ++ [v] := by
  rw [List.take_set, List.take_succ_eq_append_getElem h, List.set_append_right _ _ (by simp; omega)]
  simp only [List.length_take]
  rw [show o - min o cs.length = 0 by omega]
  rfl
 rw [h1, List.drop_set_of_lt (by omega)]
 simp [List.append_assoc, show o + 1 + xs.length = o + (xs.length + 1) by omega]
theorem A9 {id b : Nat} (hb : bl[id]? = some b) : ∀ (xs : List V) (ds : List Value) (o : Nat) (H : aB) (w : World) (cs : List V), St lim B (F ++ aS (aT xs ds)) S bl vals H w → (∀ p ∈ vals, p.1.noVia = true) →
 H[id]? = some cs → o + xs.length ≤ cs.length → RepL S bl w xs ds → (∀ v ∈ xs, v.single = true) → (∀ t ∈ aT xs ds, TipOK S w t) → bN lim id (V.rbL · xs) = true →
 St lim B F S bl vals (H.set id (fB cs o xs)) (bS w b o ds) ∧ Ext lim B F S bl H w S bl (H.set id (fB cs o xs)) (bS w b o ds)
 | [], ds, o, H, w, cs, h, hv, hH, hle, hr, hs, ht, hl => by
   have : ds = [] := by simpa [RepL] using hr
   subst this
   have e : H.set id (fB cs o []) = H := by
    have : fB cs o [] = cs := by simp [fB]
    rw [this]
    refine List.ext_getElem? fun j => ?_
    rw [List.getElem?_set]
    by_cases hj : id = j
    ·subst hj; rw [if_pos rfl, if_pos (List.getElem?_eq_some_iff.1 hH).1, hH]
    ·rw [if_neg hj]
   rw [e]
   exact ⟨by simpa [aT, bS] using h, by simpa [bS] using Ext.refl _ _ _ _ _ _ _⟩
 | v :: xs, [], o, H, w, cs, h, hv, hH, hle, hr, hs, ht, hl => by simp [RepL] at hr
 | v :: xs, c :: ds, o, H, w, cs, h, hv, hH, hle, hr, hs, ht, hl => by
   simp only [RepL] at hr
   obtain ⟨_, _, e, h1, h2⟩ := hr
   simp only [List.cons.injEq] at e
   obtain ⟨rfl, rfl⟩ := e
   simp only [List.length_cons] at hle
   have h0 : St lim B ((F ++ aS (aT xs ds)) ++ aS (bP v c)) S bl vals H w := h.unframe fun x => by simp only [aT, aS, List.map_append, List.count_append]; omega
   have ho : o < cs.length := by omega
   have hg : (rM H id o).isSome = true := by simp [rM, hH, List.getElem?_eq_getElem ho]
   have hset' : yV H id o v = H.set id (cs.set o v) := by simp [yV, hH]
   obtain ⟨g1, g2⟩ := h0.setObj (o := o) hv hg hb (hs v (List.mem_cons_self ..)) h1 (fun t k => ht t (List.mem_append_left _ k)) (by
    cases lim with
    | none => rfl
    | some l =>
      exact hl)
   rw [hset'] at g1 g2
   have hid : id < H.length := (List.getElem?_eq_some_iff.1 hH).1
   obtain ⟨k1, k2⟩ := A9 hb xs ds (o + 1) (H.set id (cs.set o v)) _ (cs.set o v) g1 hv (by rw [List.getElem?_set_self hid]) (by simp; omega) (RepL.mono g2.keeps (fun _ _ e => e) xs ds (fun u hu => V.noVia_of_single (hs u (List.mem_cons_of_mem _ hu))) h2) (fun u hu => hs u (List.mem_cons_of_mem _ hu))
    (fun t k => (ht t (List.mem_append_right _ k)).mono (g2.frame t.blk (List.mem_append_right _ (List.mem_map.2 ⟨t, k, rfl⟩))).1 fun _ x => x) (by
    cases lim with
    | none => rfl
    | some l =>
      exact hl)
   rw [aLo ho, List.set_set] at k1 k2
   exact ⟨k1, (g2.less fun x hx => List.mem_append_left _ hx).trans k2⟩
end
theorem aGr (k : Nat) (a : List V) (x : List Value) (h : a.length = x.length) : ∃ r, aT a x = aT (a.take k) (x.take k) ++ r := by
 refine ⟨aT (a.drop k) (x.drop k), ?_⟩
 rw [← eU (by simp [h]), List.take_append_drop, List.take_append_drop]
namespace St
variable {lim : Option Nat} {B : Nat} {F : List Nat} {S : Nat → Nat → Prop} {bl : List Nat} {vals : List (V × Value)} {H : aB} {w : World}
theorem kill {id b : Nat} {cs : List V} {ds : List Value} (h : St lim B F S bl vals H w) (hH : H[id]? = some cs) (hb : bl[id]? = some b) (hd : ∀ (j : Nat) c, ds[j]? = some c → w.cell? ⟨b, 0 + j, none⟩ = some c) (hl : cs.length = ds.length)
 (hm : bN lim id (fun _ => true) = true) :
 St lim B (F ++ aS (aT cs ds)) S bl vals (H.set id []) w ∧ Ext lim B F S bl H w S bl (H.set id []) w ∧ ∀ t ∈ aT cs ds, TipOK S w t := by
 obtain ⟨HA, HC, rfl, hHA⟩ := qK hH
 obtain ⟨bA, bC, rfl, hbA⟩ := qK hb
 have hlen := h.len
 have hAl : HA.length = bA.length := by omega
 have hct := E8 cs ds 0 hd hl
 have e0 : aY w (HA ++ cs :: HC) (bA ++ b :: bC) = aY w HA bA ++ (aT cs ds ++ aY w HC bC) := by
  rw [eY _ _ _ _ _ hAl]; simp only [aY, hct]
 have e1 : aY w ((HA ++ cs :: HC).set id []) (bA ++ b :: bC) = aY w HA bA ++ aY w HC bC := by
  rw [← hHA, J7, eY _ _ _ _ _ hAl]; simp only [aY, iT, List.nil_append]
 have hti : ∀ t ∈ aT cs ds, t ∈ aY w (HA ++ cs :: HC) (bA ++ b :: bC) := fun t ht => by
  rw [e0]; exact List.mem_append_right _ (List.mem_append_left _ ht)
 refine ⟨⟨h.rep, by simpa using h.len, ?_, ?_, ?_, h.stab, ?_, ?_, ?_⟩, ⟨Keeps.refl _ _, fun _ _ => ⟨rfl, fun _ x => x⟩, Below.refl _ _, fun _ _ e => e, by simp, ?_⟩, fun t ht => (h.tip t (.inr (hti t ht))).1⟩
 ·intro i cs' b' hi hbi
  by_cases hii : i = id
  ·subst hii
   rw [List.getElem?_set_self (by simp; omega)] at hi
   cases hi
   obtain ⟨⟨carr, e, lo, hi, q1, q2, q3⟩, _⟩ := h.obj i _ b' hH hbi
   exact ⟨⟨carr, e, lo, hi, q1, by simp, q3⟩, fun j v hj => by simp at hj⟩
  ·rw [List.getElem?_set_ne (Ne.symm hii)] at hi
   exact h.obj i cs' b' hi hbi
 ·intro x
  have := h.nodup x
  rw [e0] at this
  rw [e1]
  simp only [aS, List.map_append, List.count_append] at this ⊢
  omega
 ·intro t ht
  refine h.tip t (ht.imp (fun q => q) fun y => ?_)
  rw [e1] at y; rw [e0]
  rcases List.mem_append.1 y with y | y
  ·exact List.mem_append_left _ y
  ·exact List.mem_append_right _ (List.mem_append_right _ y)
 ·intro x hx
  rcases hx with hx | hx
  ·rcases List.mem_append.1 hx with hx | hx
   ·exact h.base x (.inl hx)
   ·obtain ⟨t, ht, rfl⟩ := List.mem_map.1 hx
    exact ⟨(h.tip t (.inr (hti t ht))).2, (h.tip t (.inr (hti t ht))).1.lt⟩
  ·exact h.base x (.inr hx)
 ·intro l hl'
  obtain ⟨r1, r2, r3⟩ := h.refs l hl'
  refine ⟨by simpa using r1, fun i cs' hil hi => ?_, r3⟩
  subst hl'
  simp only [bN, decide_eq_true_eq] at hm
  rw [List.getElem?_set_ne (by omega)] at hi
  exact r2 i cs' hil hi
 ·intro i j b' cs' ds' hij hbi hbj hi hj
  have g : ∀ (i : Nat) cs', ((HA ++ cs :: HC).set id [])[i]? = some cs' → cs' = [] ∨ (HA ++ cs :: HC)[i]? = some cs' := by
   intro i cs' hi
   by_cases hii : i = id
   ·subst hii
    rw [List.getElem?_set_self (by simp; omega)] at hi
    cases hi; exact .inl rfl
   ·rw [List.getElem?_set_ne (Ne.symm hii)] at hi; exact .inr hi
  rcases g i cs' hi with k | k
  ·exact .inl k
  ·rcases g j ds' hj with k' | k'
   ·exact .inr k'
   ·exact h.sep i j b' cs' ds' hij hbi hbj k k'
 ·rintro l rfl
  simp only [bN, decide_eq_true_eq] at hm
  exact ⟨fun _ _ _ _ => rfl, by rw [List.take_set_of_le hm]⟩
theorem reuse {id b : Nat} {cs : List V} {ds : List Value} {w' : World} {carr carr' : Array Value} {e : TypeId} {lo hi : Nat} (h : St lim B (F ++ aS (aT cs ds)) S bl vals H w) (hv : ∀ p ∈ vals, p.1.noVia = true)
 (hb : bl[id]? = some b) (hdead : ∀ (i : Nat) cs', bl[i]? = some b → H[i]? = some cs' → cs' = []) (hm : bN lim id (fun _ => true) = true)
 (size : w'.heap.size = w.heap.size) (others : ∀ b', b' ≠ b → w'.heap[b']? = w.heap[b']?) (hos : w'.os = w.os ∧ w'.tape = w.tape ∧ w'.output = w.output)
 (hwb : w.heap[b]? = some (.cells carr e (lo, hi))) (hwb' : w'.heap[b]? = some (.cells carr' e (lo, hi))) (hsz : carr'.size = carr.size) (hfz : ∀ o, o < carr.size → ¬ (lo ≤ o ∧ o < hi))
 (hc : ∀ (j : Nat) c, ds[j]? = some c → carr'[j]? = some c)
 (hr : RepL S bl w cs ds) (hs : ∀ v ∈ cs, v.single = true) (ht : ∀ t ∈ aT cs ds, TipOK S w t) :
 St lim B F S (bl ++ [b]) vals (H ++ [cs]) w' ∧ Ext lim B F S bl H w S (bl ++ [b]) (H ++ [cs]) w' := by
 have hbm : b ∈ bl := List.mem_of_getElem? hb
 have hlen : cs.length = ds.length := ((aK cs ds).1 hr).1
 have hSb : ∀ o', ¬ S b o' := fun o' x => (h.stab b o' x).1 hbm
 have k : Keeps S w S w' := ⟨fun _ _ x => x, fun b' o' x => jH (others b' (by rintro rfl; exact hSb o' x)) o', fun b' n x => by
  by_cases e' : b' = b
  ·subst e'
   obtain ⟨c0, t, f, x1, x2⟩ := x
   rw [hwb] at x1
   cases x1
   exact ⟨_, _, _, hwb', by omega⟩
  ·exact x.same (others b' e')⟩
 have hpre : ∀ i b' : Nat, bl[i]? = some b' → (bl ++ [b])[i]? = some b' := fun i b' hi => by
  rw [List.getElem?_append_left (List.getElem?_eq_some_iff.1 hi).1]; exact hi
 have hcell : ∀ (j : Nat) c, ds[j]? = some c → w'.cell? ⟨b, 0 + j, none⟩ = some c := fun j c hj => by
  rw [lQ hwb', Nat.zero_add]; exact hc j c hj
 have hct := E8 (w := w') cs ds 0 hcell hlen
 have hlive : ∀ (i b' : Nat) cs', H[i]? = some cs' → bl[i]? = some b' → cs' = [] ∨ w'.heap[b']? = w.heap[b']? := fun i b' cs' hi hbi => by
  by_cases e' : b' = b
  ·subst e'; exact .inl (hdead i cs' hbi hi)
  ·exact .inr (others b' e')
 have hht : aY w' (H ++ [cs]) (bl ++ [b]) = aY w H bl ++ aT cs ds := by
  rw [eY _ _ _ _ _ h.len, wQ H bl fun i cs' b' hi hbi => hlive i b' cs' hi hbi]
  simp only [aY, hct, List.append_nil]
 have hF : ∀ x, (F ++ aS (aT cs ds)).count x + ind bl x ≤ 1 := fun x => by have := h.nodup x; omega
 have hneF : ∀ x ∈ F ++ aS (aT cs ds), x ≠ b := by
  rintro x hx rfl
  have h1 := hF x
  have h2 := mem_count hx
  have h3 := eK hbm
  omega
 have hne : ∀ t, (t ∈ aH vals ∨ t ∈ aY w H bl) → t.blk ≠ b := by
  intro t ht' e'
  have := h.nodup b
  have hbc : ind bl b = 1 := eK hbm
  rcases ht' with ht' | ht'
  ·have : 1 ≤ (aS (aH vals)).count b := mem_count (List.mem_map.2 ⟨t, ht', e'⟩); omega
  ·have : 1 ≤ (aS (aY w H bl)).count b := mem_count (List.mem_map.2 ⟨t, ht', e'⟩); omega
 have hind : ∀ x, ind (bl ++ [b]) x = ind bl x := fun x => by
  by_cases hx : x ∈ bl
  ·rw [eK hx, eK (List.mem_append_left _ hx)]
  ·rw [gV hx, gV (fun y => ?_)]
   rcases List.mem_append.1 y with y | y
   ·exact hx y
   ·simp at y; subst y; exact hx hbm
 refine ⟨⟨fun p hp => Rep.mono k hpre _ _ (hv p hp) (h.rep p hp), by simp [h.len], ?_, ?_, ?_, ?_, ?_, ?_, ?_⟩,
  ⟨k, fun x hx => ⟨others x (hneF x (List.mem_append_left _ hx)), fun _ y => y⟩, ⟨hos.1, hos.2.1, hos.2.2, Nat.le_of_eq size.symm, fun b' hb' => others b' (by have := (h.base b (.inr hbm)).1; omega)⟩, hpre, by simp, fun l hl => ⟨fun i b' hi hb' => others b' ?_, by rw [List.take_append_of_le_length (h.refs l hl).1]⟩⟩⟩
 ·intro i cs' b' hii hbi
  by_cases hil : i < H.length
  ·rw [List.getElem?_append_left hil] at hii
   rw [List.getElem?_append_left (by rw [← h.len]; exact hil)] at hbi
   rcases hlive i b' cs' hii hbi with rfl | h1
   ·by_cases e' : b' = b
    ·subst e'
     exact ⟨⟨carr', e, lo, hi, hwb', by simp, by rw [hsz]; exact hfz⟩, fun j v hj => by simp at hj⟩
    ·exact (h.obj i ([] : List V) b' hii hbi).mono k hpre (others b' e')
   ·exact (h.obj i cs' b' hii hbi).mono k hpre h1
  ·have hil' : i = H.length := by
    have := (List.getElem?_eq_some_iff.1 hii).1
    simp at this; omega
   subst hil'
   simp only [List.getElem?_append_right (Nat.le_refl _), Nat.sub_self, List.getElem?_cons_zero, Option.some.injEq] at hii
   rw [h.len, List.getElem?_append_right (Nat.le_refl _)] at hbi
   simp only [Nat.sub_self, List.getElem?_cons_zero, Option.some.injEq] at hbi
   subst hii; subst hbi
   refine ⟨⟨carr', e, lo, _, hwb', ?_, by rw [hsz]; exact hfz⟩, fun j v hj => ?_⟩
   ·rw [hlen]
    by_cases h0 : ds.length = 0
    ·omega
    ·have hd : ds[ds.length - 1]? = some ds[ds.length - 1] := List.getElem?_eq_getElem (by omega)
     have := (Array.getElem?_eq_some_iff.1 (hc _ _ hd)).1
     omega
   ·refine ⟨hs v (List.mem_of_getElem? hj), ?_⟩
    obtain ⟨hj1, _⟩ := List.getElem?_eq_some_iff.1 hj
    obtain ⟨c, hcj⟩ : ∃ c, ds[j]? = some c := ⟨_, List.getElem?_eq_getElem (by omega)⟩
    refine ⟨c, ?_, ?_⟩
    ·have := hcell j c hcj; rwa [Nat.zero_add] at this
    ·exact Rep.mono k hpre v c (V.noVia_of_single (hs v (List.mem_of_getElem? hj))) (((aK cs ds).1 hr).2 j v c hj hcj)
 ·intro x
  have := h.nodup x
  rw [hht, hind]
  simp only [aS, List.map_append, List.count_append] at this ⊢
  omega
 ·intro t ht'
  rw [hht] at ht'
  have hold : (t ∈ aH vals ∨ t ∈ aY w H bl) ∨ t ∈ aT cs ds := by
   rcases ht' with ht' | ht'
   ·exact .inl (.inl ht')
   ·rcases List.mem_append.1 ht' with ht' | ht'
    ·exact .inl (.inr ht')
    ·exact .inr ht'
  rcases hold with hold | hold
  ·exact ⟨(h.tip t hold).1.mono (others _ (hne t hold)) fun _ x => x, (h.tip t hold).2⟩
  ·have hbk : t.blk ∈ F ++ aS (aT cs ds) := List.mem_append_right _ (List.mem_map.2 ⟨t, hold, rfl⟩)
   exact ⟨(ht t hold).mono (others _ (hneF _ hbk)) fun _ x => x, (h.base t.blk (.inl hbk)).1⟩
 ·intro b' o' x
  obtain ⟨a1, a2⟩ := h.stab b' o' x
  refine ⟨fun y => ?_, by rw [k.cell b' o' x]; exact a2⟩
  rcases List.mem_append.1 y with y | y
  ·exact a1 y
  ·simp at y; subst y; exact a1 hbm
 ·intro b' hb'
  have : b' ∈ F ++ aS (aT cs ds) ∨ b' ∈ bl := by
   rcases hb' with hb' | hb'
   ·exact .inl (List.mem_append_left _ hb')
   ·rcases List.mem_append.1 hb' with hb' | hb'
    ·exact .inr hb'
    ·simp at hb'; subst hb'; exact .inr hbm
  have := h.base b' this
  exact ⟨this.1, by rw [size]; exact this.2⟩
 ·intro l hl
  obtain ⟨a1, a2, a3⟩ := h.refs l hl
  have hlid : l ≤ id := by subst hl; simpa only [bN, decide_eq_true_eq] using hm
  refine ⟨by simp; omega, fun i cs' hil hi => ?_, fun i j b' hi hj hbi hbj => ?_⟩
  ·rw [List.getElem?_append_left (by omega)] at hi
   exact a2 i cs' hil hi
  ·have hlen' := h.len
   rw [List.getElem?_append_left (by omega)] at hbi
   by_cases hjl : j < bl.length
   ·rw [List.getElem?_append_left hjl] at hbj; exact a3 i j b' hi hj hbi hbj
   ·have : j = bl.length := by have := (List.getElem?_eq_some_iff.1 hbj).1; simp at this; omega
    subst this
    simp at hbj
    subst hbj
    exact a3 i id b hi hlid hbi hb
 ·have key : ∀ (i j b' : Nat) cs' ds', i < j → (bl ++ [b])[i]? = some b' → (bl ++ [b])[j]? = some b' → (H ++ [cs])[i]? = some cs' → (H ++ [cs])[j]? = some ds' → cs' = [] ∨ ds' = [] := by
   intro i j b' cs' ds' hij hbi hbj hi hj
   have hlen' := h.len
   have hjl : j < bl.length + 1 := by have := (List.getElem?_eq_some_iff.1 hbj).1; simpa using this
   rw [List.getElem?_append_left (by omega)] at hbi hi
   by_cases hj' : j < bl.length
   ·rw [List.getElem?_append_left hj'] at hbj
    rw [List.getElem?_append_left (by omega)] at hj
    exact h.sep i j b' cs' ds' (by omega) hbi hbj hi hj
   ·have : j = bl.length := by omega
    subst this
    simp at hbj
    subst hbj
    exact .inl (hdead i cs' hbi hi)
  intro i j b' cs' ds' hij hbi hbj hi hj
  rcases Nat.lt_or_gt_of_ne hij with q | q
  ·exact key i j b' cs' ds' q hbi hbj hi hj
  ·exact (key j i b' ds' cs' q hbj hbi hj hi).symm
 ·rintro rfl
  subst hl
  exact (h.refs l rfl).2.2 i id b' hi (by simpa only [bN, decide_eq_true_eq] using hm) hb' hb
end St
section
variable {P : Program} {lim : Option Nat} {B : Nat} {F : List Nat} {S : Nat → Nat → Prop} {bl : List Nat} {H : aB} {w : World}
theorem R9 {H : aB} {id : Nat} {cs : List V} (h : H[id]? = some cs) : bX H id 0 cs.length = some cs := by
 simp [bX, h]
theorem aBt {cs us : List V} {ds es : List Value} {k : Nat} (hl : cs.length = ds.length) (hu : us.length = es.length) :
 (∀ x, (aS (aT (cs.take k ++ us.map V.dis1) (ds.take k ++ es))).count x ≤ (aS (aT cs ds)).count x) ∧ ∀ t ∈ aT (cs.take k ++ us.map V.dis1) (ds.take k ++ es), t ∈ aT cs ds := by
 obtain ⟨r, hr⟩ := aGr k cs ds hl
 rw [eU (by simp [hl]), fG, List.append_nil, hr]
 exact ⟨fun x => by simp only [aS, List.map_append, List.count_append]; omega, fun t ht => List.mem_append_left _ ht⟩
theorem aP4 {t u e sz bytes : Nat} {d : TypeDesc} {ats : Array TypeId} {ty : TypeId} {s x r : V} {H' : aB} {a b : Value} (h : St lim B F S bl [(s, a), (x, b)] H w) (hB : B ≤ w.heap.size)
 (h0 : ats[0]? = some t) (h1 : ats[1]? = some u) (ht : P.underlying t = some (.slice e)) (hu : P.underlying u = some d) (hd : ∀ k, d ≠ .int k) (hsz : fP P e sz = true) (hby : lP P e bytes = true) (hpos : 0 < sz) (hbpos : 0 < bytes)
 (hzero2 : ∀ w', ∃ z, (zeroValue e).run P w' = .ok z w' ∧ z.cells.size = sz) (hr : Z5 lim sz bytes H [s, x] = some (r, H')) :
 ∃ c w' S' bl', (Builtin.append_ ats ty #[a, b]).run P w = .ok c w' ∧ St lim B F S' bl' [(r, c)] H' w' ∧ Ext lim B F S bl H w S' bl' H' w' := by
 have hs : Rep S bl w s a := h.rep _ (List.mem_cons_self ..)
 have hx : Rep S bl w x b := h.rep (x, b) (by simp)
 have hd' : (match d with | .int _ => true | _ => false) = false := by cases d <;> first | rfl | exact absurd rfl (hd _)
 obtain ⟨i, hinfo, hi2⟩ := Q7 hby
 cases s <;> try (simp [Z5] at hr; done)
 ·
  rename_i z id off n k
  simp only [Z5] at hr
  split at hr
  ·rename_i hc
   obtain ⟨rfl, hm⟩ := hc
   obtain ⟨cs, hH, hr⟩ := Option.bind_eq_some_iff.1 hr
   obtain ⟨⟨m, us⟩, htl, hr⟩ := Option.bind_eq_some_iff.1 hr
   simp only at hr
   obtain ⟨hum, husng, es, e1, e2, e3⟩ := vO (P := P) h hx htl
   have hue := ((aK us es).1 e1).1
   have hs0 := hs
   simp only [Rep] at hs
   obtain ⟨bb, cap, hb, ⟨hnk, hkc⟩, rfl, hfit⟩ := hs
   obtain ⟨carr, el, lo, hi, q1, q2, q3⟩ := (h.obj id cs bb hH hb).ex
   have harr0 : (#[Value.slice (some ⟨bb, off, none⟩) n cap, b] : Array Value)[0]? = some (.slice (some ⟨bb, off, none⟩) n cap) := rfl
   have harr1 : (#[Value.slice (some ⟨bb, off, none⟩) n cap, b] : Array Value)[1]? = some b := rfl
   split at hr
   ·
    rename_i hroomk
    have hcap : n + m ≤ cap := by omega
    split at hr
    ·rename_i hlen
     cases hr
     rw [Nat.add_mul] at hlen
     have hsg : ∀ v ∈ us.map V.dis1, v.single = true := fun v hv => by
      obtain ⟨u', hu', rfl⟩ := List.mem_map.1 hv; exact V.dis1_single (husng u' hu')
     obtain ⟨g1, g2⟩ := A9 (F := F) (vals := []) hb (us.map V.dis1) es (off + n * z) H w cs (by rw [fG]; simpa [aS] using h.nil) (fun p hp => by cases hp) hH (by simp; omega) e1.dis1 hsg (fun t ht => by rw [fG] at ht; cases ht) (by cases lim <;> exact hm)
     refine ⟨.slice (some ⟨bb, off, none⟩) (n + m) cap, _, _, _, ?_, g1.add0 ?_ rfl, g2⟩
     ·have hstore : (storeCells ((⟨bb, off, none⟩ : Addr).add (n * z)) es 0).run P w = .ok () (bS w bb (off + n * z) es) := by
       rw [add_none]
       have := eF P (b := bb) (o := off + n * z) es 0 w carr el lo hi q1 (by omega) (fun j hj hj' => q3 j hj') (e1.oneCell husng)
       rwa [Nat.add_zero] at this
      simp only [Builtin.append_, h0, h1, harr0, harr1, Sem.run_bind, aO ht, Result.andThen_ok, bT hsz]
      simp only [Sem.run_bind, aO hu, Result.andThen_ok, Sem.run_pure]
      simp only [hd', Bool.false_eq_true, if_false, e2, Result.andThen_ok, hcap, if_true, Bool.not_false, e3, Sem.run_bind, hstore, Sem.run_pure]
     ·simp only [Rep]
      exact ⟨bb, cap, hb, ⟨hroomk, hkc⟩, rfl, g2.keeps.size _ _ hfit⟩
    ·cases hr
   ·rename_i hroomk
    split at hr
    ·rename_i hcs
     obtain ⟨hoff, hne, hlen, hroom⟩ := hcs
     simp only [Option.some.injEq, Prod.mk.injEq] at hr
     obtain ⟨hr1, hr2⟩ := hr
     subst hr1; subst hr2; subst hoff
     obtain ⟨c0, t0, f0, x1, x2⟩ := hfit
     rw [q1] at x1
     cases x1
     rw [Nat.zero_add] at x2
     have hneed : n + m ≤ 140737488355328 := by
      have h1 : (n + m) * 1 ≤ (n + m) * bytes := Nat.mul_le_mul_left _ hbpos
      unfold room at hroom; omega
     have hidl := (List.getElem?_eq_some_iff.1 hH).1
     have hdead : ∀ (i : Nat) cs', bl[i]? = some bb → (H.set id [])[i]? = some cs' → cs' = [] := fun i cs' hbi hi => by
      by_cases hii : i = id
      ·subst hii
       rw [List.getElem?_set_self hidl] at hi
       cases hi; rfl
      ·rw [List.getElem?_set_ne (Ne.symm hii)] at hi
       exact (h.sep i id bb cs' cs hii hbi hb hi hH).resolve_right hne
     by_cases hcap : n + m ≤ cap
     ·
      obtain ⟨hl, ds, d1, d2, d3⟩ := h.cells (R9 hH) hb
      have hdl := ((aK cs ds).1 d1).1
      obtain ⟨k1, k2, k3⟩ := (h.nil).kill hH hb d2 hdl hm
      obtain ⟨b1, b2⟩ := aBt (k := n * z) hdl hue
      obtain ⟨p1, p2, p3, p4, p5, carr', p6, p7, p8⟩ := uK es w bb (n * z) carr el (lo, hi) q1
      have hmul : (n + m) * z ≤ cap * z := Nat.mul_le_mul_right z hcap
      rw [Nat.add_mul] at hmul
      have htk : (cs.take (n * z)).length = n * z := by simp; omega
      have htd : (ds.take (n * z)).length = n * z := by simp; omega
      have hcont : ∀ (j : Nat) c, (ds.take (n * z) ++ es)[j]? = some c → carr'[j]? = some c := by
       intro j c hj
       rw [p8 j]
       by_cases hj1 : j < n * z
       ·rw [if_neg (by omega)]
        rw [List.getElem?_append_left (by omega), List.getElem?_take, if_pos hj1] at hj
        have := d2 j c hj
        rwa [Nat.zero_add, lQ q1] at this
       ·rw [List.getElem?_append_right (by omega), htd] at hj
        have := (List.getElem?_eq_some_iff.1 hj).1
        rw [if_pos (by omega)]; exact hj
      have hRL : RepL S bl w (cs.take (n * z) ++ us.map V.dis1) (ds.take (n * z) ++ es) := by
       refine kQ ?_ e1.dis1
       refine (aK _ _).2 ⟨by rw [htk, htd], fun j v c hv hc => ?_⟩
       rw [List.getElem?_take] at hv hc
       split at hv
       ·rename_i hj; rw [if_pos hj] at hc; exact ((aK cs ds).1 d1).2 j v c hv hc
       ·cases hv
      have hsg : ∀ v ∈ cs.take (n * z) ++ us.map V.dis1, v.single = true := fun v hv => by
       rcases List.mem_append.1 hv with hv | hv
       ·exact d3 v (List.mem_of_mem_take hv)
       ·obtain ⟨u', hu', rfl⟩ := List.mem_map.1 hv; exact V.dis1_single (husng u' hu')
      obtain ⟨g1, g2⟩ := St.reuse (h := k1.unframe (F := F ++ aS (aT (cs.take (n * z) ++ us.map V.dis1) (ds.take (n * z) ++ es))) fun x => by
       have := b1 x; simp only [List.count_append]; omega) (fun p hp => by cases hp) hb hdead hm p1 p2 ⟨p3, p4, p5⟩ q1 p6 p7 q3 hcont hRL hsg fun t ht => k3 t (b2 t ht)
      refine ⟨.slice (some ⟨bb, 0, none⟩) (n + m) cap, _, _, _, ?_, g1.add0 ?_ rfl, k2.trans g2⟩
      ·have hstore : (storeCells ((⟨bb, 0, none⟩ : Addr).add (n * z)) es 0).run P w = .ok () (bS w bb (n * z) es) := by
        rw [add_none, Nat.zero_add]
        have := eF P (b := bb) (o := n * z) es 0 w carr el lo hi q1 (by omega) (fun j hj hj' => q3 j hj') (e1.oneCell husng)
        rwa [Nat.add_zero] at this
       simp only [Builtin.append_, h0, h1, harr0, harr1, Sem.run_bind, aO ht, Result.andThen_ok, bT hsz]
       simp only [Sem.run_bind, aO hu, Result.andThen_ok, Sem.run_pure]
       simp only [hd', Bool.false_eq_true, if_false, e2, Result.andThen_ok, hcap, if_true, Bool.not_false, e3, Sem.run_bind, hstore, Sem.run_pure]
      ·simp only [Rep]
       exact ⟨bb, cap, by rw [h.len]; simp, ⟨Nat.le_refl _, hcap⟩, rfl, _, _, _, p6, by omega⟩
     ·
      obtain ⟨h', hx0⟩ := h.drew
      obtain ⟨_, _, es', f1, f2, f3⟩ := vO (P := P) h' (show Rep S bl _ x b from h'.rep (x, b) (by simp)) htl
      have hue' := ((aK us es').1 f1).1
      obtain ⟨zz, hz, hzsz⟩ := hzero2 { w with drawn := w.drawn + 1 }
      obtain ⟨hl, ds, d1, d2, d3⟩ := h'.cells (R9 hH) hb
      have hdl := ((aK cs ds).1 d1).1
      obtain ⟨k1, k2, k3⟩ := (h'.nil).kill hH hb d2 hdl hm
      obtain ⟨b1, b2⟩ := aBt (k := n * z) hdl hue'
      have htk : (cs.take (n * z)).length = n * z := by simp; omega
      have htd : (ds.take (n * z)).length = n * z := by simp; omega
      have hold : (Builtin.firstCells z n (.slice (some ⟨bb, 0, none⟩) n cap)).run P { w with drawn := w.drawn + 1 } = .ok (ds.take (n * z)).toArray { w with drawn := w.drawn + 1 } := by
       simp only [Builtin.firstCells]
       refine eA P htd fun j c hj => ?_
       rw [List.getElem?_take] at hj
       split at hj
       ·exact d2 j c hj
       ·cases hj
      have hRL : RepL S bl { w with drawn := w.drawn + 1 } (cs.take (n * z)) (ds.take (n * z)) := by
       refine (aK _ _).2 ⟨by rw [htk, htd], fun j v c hv hc => ?_⟩
       rw [List.getElem?_take] at hv hc
       split at hv
       ·rename_i hj; rw [if_pos hj] at hc; exact ((aK cs ds).1 d1).2 j v c hv hc
       ·cases hv
      have hsg : ∀ v ∈ cs.take (n * z) ++ us.map V.dis1, v.single = true := fun v hv => by
       rcases List.mem_append.1 hv with hv | hv
       ·exact d3 v (List.mem_of_mem_take hv)
       ·obtain ⟨u', hu', rfl⟩ := List.mem_map.1 hv; exact V.dis1_single (husng u' hu')
      generalize hq : (Question.appendCap (n + m) cap e).cut (w.tape w.drawn (Question.appendCap (n + m) cap e)) = newCap
      have hnc : n + m ≤ newCap := by rw [← hq]; simp only [Question.cut]; omega
      generalize hrest : (Builtin.zeroCells zz.cells (newCap - (n + m))) = rest
      have hrow : ((ds.take (n * z)).toArray ++ es'.toArray ++ rest).toList = (ds.take (n * z) ++ es') ++ rest.toList := by simp
      obtain ⟨g1, g2⟩ := St.newObj (h := k1.unframe (F := F ++ aS (aT (cs.take (n * z) ++ us.map V.dis1) (ds.take (n * z) ++ es'))) fun x => by
       have := b1 x; simp only [List.count_append]; omega) hB (kQ hRL f1.dis1) hsg (fun t ht => k3 t (b2 t ht)) (e := e) hrow
      refine ⟨.slice (some ⟨w.heap.size, 0, none⟩) (n + m) newCap, _, _, _, ?_, g1.add0 ?_ rfl, (hx0.trans k2).trans g2⟩
      ·simp only [Builtin.append_, h0, h1, harr0, harr1, Sem.run_bind, aO ht, Result.andThen_ok, bT hsz]
       simp only [Sem.run_bind, aO hu, Result.andThen_ok, Sem.run_pure]
       have hns : ¬ (Builtin.nextslicecap (n + m) cap * i.bytes > 2 ^ 48) := by
        have h1 := qS (need := n + m) (cap := cap) (by omega)
        have h2 : Builtin.nextslicecap (n + m) cap * bytes ≤ 2 * (n + m) * bytes := Nat.mul_le_mul_right _ h1
        rw [Nat.mul_assoc] at h2
        rw [hi2]
        unfold room at hroom
        omega
       have hb0 : ¬ (i.bytes = 0) := by omega
       simp only [hd', Bool.false_eq_true, if_false, e2, Result.andThen_ok, hcap, Bool.not_false, if_true, Sem.run_bind, fJ hinfo, hb0, or_self, and_false, hns, run_choose, Question.forced, hq, run_askRoom, hold, f3, hz, hrest, newRow, run_newObj, Sem.run_pure]
      ·simp only [Rep]
       refine ⟨w.heap.size, newCap, ?_, ⟨Nat.le_refl _, hnc⟩, rfl, _, _, _, sV, ?_⟩
       ·have := k1.len; simp only [List.length_set] at this; rw [this]; simp
       ·rw [Nat.zero_add]; exact aL1 hz hzsz hrest hRL f1 htk hum hnc
    ·cases hr
  ·cases hr
 ·
  simp only [Z5] at hr
  obtain ⟨⟨m, us⟩, htl, hr⟩ := Option.bind_eq_some_iff.1 hr
  simp only at hr
  split at hr
  ·rename_i hroom
   obtain ⟨hum, husng, es, e1, e2, e3⟩ := vO (P := P) h hx htl
   have hue := ((aK us es).1 e1).1
   have hs0 := hs
   simp only [Rep] at hs
   subst hs
   have harr0 : (#[Value.slice none 0 0, b] : Array Value)[0]? = some (.slice none 0 0) := rfl
   have harr1 : (#[Value.slice none 0 0, b] : Array Value)[1]? = some b := rfl
   split at hr
   ·rename_i hm0
    cases hr
    subst hm0
    obtain rfl : us = [] := List.length_eq_zero_iff.1 (by rw [hum]; simp)
    obtain rfl : es = [] := by simpa [RepL] using e1
    refine ⟨.slice none 0 0, w, S, bl, ?_, h.nil.add0 hs0 rfl, Ext.refl _ _ _ _ _ _ _⟩
    simp only [Builtin.append_, h0, h1, harr0, harr1, Sem.run_bind, aO ht, Result.andThen_ok, bT hsz]
    simp only [Sem.run_bind, aO hu, Result.andThen_ok, Sem.run_pure]
    simp only [hd', Bool.false_eq_true, if_false, e2, Result.andThen_ok, Nat.zero_add, Nat.le_refl, if_true, Bool.not_false, e3, Sem.run_bind, Sem.run_pure]
   ·rename_i hm0
    cases hr
    have hneed : m ≤ 140737488355328 := by
     have h1 : m * 1 ≤ m * bytes := Nat.mul_le_mul_left _ hbpos
     unfold room at hroom; omega
    obtain ⟨h', hx0⟩ := h.drew
    obtain ⟨_, _, es', f1, f2, f3⟩ := vO (P := P) h' (show Rep S bl _ x b from h'.rep (x, b) (by simp)) htl
    obtain ⟨zz, hz, hzsz⟩ := hzero2 { w with drawn := w.drawn + 1 }
    have hold : (Builtin.firstCells sz 0 (.slice none 0 0)).run P { w with drawn := w.drawn + 1 } = .ok ([] : List Value).toArray { w with drawn := w.drawn + 1 } := rfl
    have hcap : ¬ (0 + m ≤ 0) := by omega
    generalize hq : (Question.appendCap (0 + m) 0 e).cut (w.tape w.drawn (Question.appendCap (0 + m) 0 e)) = newCap
    have hnc : 0 + m ≤ newCap := by rw [← hq]; simp only [Question.cut]; omega
    generalize hrest : (Builtin.zeroCells zz.cells (newCap - (0 + m))) = rest
    have hrow : (([] : List Value).toArray ++ es'.toArray ++ rest).toList = es' ++ rest.toList := by simp
    obtain ⟨g1, g2⟩ := St.newObj (h := h'.nil.unframe (F := F ++ aS (aT (us.map V.dis1) es')) fun x => by rw [fG]; simp [aS]) hB f1.dis1
     (fun v hv => by obtain ⟨u', hu', rfl⟩ := List.mem_map.1 hv; exact V.dis1_single (husng u' hu')) (fun t ht => by rw [fG] at ht; cases ht) (e := e) hrow
    refine ⟨.slice (some ⟨w.heap.size, 0, none⟩) (0 + m) newCap, _, _, _, ?_, g1.add0 ?_ rfl, hx0.trans g2⟩
    ·simp only [Builtin.append_, h0, h1, harr0, harr1, Sem.run_bind, aO ht, Result.andThen_ok, bT hsz]
     simp only [Sem.run_bind, aO hu, Result.andThen_ok, Sem.run_pure]
     have hns : ¬ (Builtin.nextslicecap (0 + m) 0 * i.bytes > 2 ^ 48) := by
      have h1 := qS (need := 0 + m) (cap := 0) (by omega)
      have h2 : Builtin.nextslicecap (0 + m) 0 * bytes ≤ 2 * (0 + m) * bytes := Nat.mul_le_mul_right _ h1
      rw [Nat.mul_assoc, Nat.zero_add] at h2
      rw [hi2, Nat.zero_add]
      unfold room at hroom
      omega
     have hb0 : ¬ (i.bytes = 0) := by omega
     simp only [hd', Bool.false_eq_true, if_false, e2, Result.andThen_ok, hcap, Bool.not_false, if_true, Sem.run_bind, fJ hinfo, hb0, or_self, and_false, hns, run_choose, Question.forced, hq, run_askRoom, hold, f3, hz, hrest, newRow, run_newObj, Sem.run_pure]
    ·simp only [Rep]
     refine ⟨w.heap.size, newCap, by rw [h.len]; simp, ⟨Nat.le_refl _, by omega⟩, by rw [Nat.zero_add], _, _, _, sV, ?_⟩
     rw [Nat.zero_add]; exact aL1 (cs := []) (n := 0) hz hzsz hrest (by simp [RepL]) f1 (by simp) hum hnc
  ·cases hr
end
end Go.Abs
