/-
  New slices by value; appending in place; the model's loads and stores of rows of cells.
-/
import Derived.Test.YtcfefgeheibadaaAbsV
namespace Go.Abs
open Go.RowKit (Below)
set_option linter.unusedVariables false

theorem add_none (b o n : Nat) : (⟨b, o, none⟩ : Addr).add n = ⟨b, o + n, none⟩ := by
  unfold Addr.add
  split
  · rename_i h; subst h; rfl
  · rfl
theorem addr_eta {a : Addr} (h : a.spot = none) : a = ⟨a.block, a.off, none⟩ := by cases a; simp_all

/-! ### Rows of cells -/
def setCells (w : World) (b : Nat) : Nat → List Value → World
  | _, [] => w
  | o, v :: vs => setCells (w.setCell ⟨b, o, none⟩ v) b (o + 1) vs

theorem setCells_spec : ∀ (vs : List Value) (w : World) (b o : Nat) (carr : Array Value) (e : TypeId) (f : Nat × Nat), w.heap[b]? = some (.cells carr e f) →
    (setCells w b o vs).heap.size = w.heap.size ∧ (∀ b', b' ≠ b → (setCells w b o vs).heap[b']? = w.heap[b']?) ∧ (setCells w b o vs).os = w.os ∧ (setCells w b o vs).tape = w.tape ∧ (setCells w b o vs).output = w.output ∧
    ∃ carr' : Array Value, (setCells w b o vs).heap[b]? = some (.cells carr' e f) ∧ carr'.size = carr.size ∧
      ∀ j : Nat, carr'[j]? = if o ≤ j ∧ j < o + vs.length ∧ j < carr.size then vs[j - o]? else carr[j]?
  | [], w, b, o, carr, e, f, h => ⟨rfl, fun _ _ => rfl, rfl, rfl, rfl, carr, h, rfl, fun j => by rw [if_neg]; simp; omega⟩
  | v :: vs, w, b, o, carr, e, f, h => by
    obtain ⟨a1, a2, a3⟩ := St.setCell_heap w b o v
    obtain ⟨b1, b2, b3, b4, b5, carr', b6, b7, b8⟩ := setCells_spec vs (w.setCell ⟨b, o, none⟩ v) b (o + 1) _ e f (a3 carr e f h)
    refine ⟨b1.trans a1, fun b' hb' => (b2 b' hb').trans (a2 b' hb'), b3, b4, b5, carr', b6, by simpa using b7, fun j => ?_⟩
    rw [b8 j]
    simp only [Array.size_setIfInBounds, List.length_cons]
    by_cases h1 : j = o
    · subst h1
      rw [if_neg (by omega)]
      by_cases h2 : j < carr.size
      · rw [if_pos (by omega), Array.getElem?_setIfInBounds_self_of_lt h2]; simp
      · rw [if_neg (by omega), Array.getElem?_setIfInBounds]; simp [h2]
    · rw [Array.getElem?_setIfInBounds_ne (Ne.symm h1)]
      by_cases h3 : o + 1 ≤ j ∧ j < o + 1 + vs.length ∧ j < carr.size
      · rw [if_pos h3, if_pos (by omega), show j - o = (j - (o + 1)) + 1 by omega, List.getElem?_cons_succ]
      · rw [if_neg h3, if_neg (by omega)]

theorem frozen_false {w : World} {b o : Nat} {carr : Array Value} {e : TypeId} {lo hi : Nat} (h : w.heap[b]? = some (.cells carr e (lo, hi))) (ho : ¬ (lo ≤ o ∧ o < hi)) : w.frozen? ⟨b, o, none⟩ = false := by
  simp only [World.frozen?, h]
  simp only [Bool.and_eq_false_iff, decide_eq_false_iff_not]
  omega
theorem run_storeCells (P : Program) {b o : Nat} : ∀ (vs : List Value) (i : Nat) (w : World) (carr : Array Value) (e : TypeId) (lo hi : Nat), w.heap[b]? = some (.cells carr e (lo, hi)) → o + i + vs.length ≤ carr.size →
    (∀ j, o + i ≤ j → j < carr.size → ¬ (lo ≤ j ∧ j < hi)) → (∀ v ∈ vs, v.oneCell' = true) → (storeCells ⟨b, o, none⟩ vs i).run P w = .ok () (setCells w b (o + i) vs)
  | [], i, w, carr, e, lo, hi, _, _, _, _ => by unfold storeCells setCells; simp
  | v :: vs, i, w, carr, e, lo, hi, h, hl, hf, hv => by
    unfold storeCells setCells
    simp only [List.length_cons] at hl
    have hc : w.cell? ⟨b, o + i, none⟩ = some carr[o + i] := by rw [cell_of h]; exact Array.getElem?_eq_getElem (by omega)
    simp only [Sem.run_bind, add_none]
    rw [run_store P w _ v _ (hv v (List.mem_cons_self ..)), hc]
    simp only [frozen_false h (hf (o + i) (Nat.le_refl _) (by omega)), Bool.false_eq_true, if_false]
    have a3 := (St.setCell_heap w b (o + i) v).2.2 carr e (lo, hi) h
    have := run_storeCells P (b := b) (o := o) vs (i + 1) (w.setCell ⟨b, o + i, none⟩ v) _ e lo hi a3 (by simp; omega) (fun j hj hj' => hf j (by omega) (by simpa using hj')) fun u hu => hv u (List.mem_cons_of_mem _ hu)
    exact this
theorem run_loadCellsFrom (P : Program) {b o : Nat} : ∀ (n i : Nat) (acc : Array Value) (w : World) (cs : List Value), cs.length = n → (∀ (j : Nat) c, cs[j]? = some c → w.cell? ⟨b, o + i + j, none⟩ = some c) →
    (loadCellsFrom ⟨b, o, none⟩ i n acc).run P w = .ok (acc ++ cs.toArray) w
  | 0, i, acc, w, cs, hl, _ => by
    have : cs = [] := List.length_eq_zero_iff.1 hl
    subst this; unfold loadCellsFrom; simp
  | n + 1, i, acc, w, [], hl, _ => by simp at hl
  | n + 1, i, acc, w, c :: cs, hl, h => by
    unfold loadCellsFrom
    have h0 := h 0 c rfl
    rw [Nat.add_zero] at h0
    simp only [Sem.run_bind, add_none, run_load, h0]
    have := run_loadCellsFrom P (b := b) (o := o) n (i + 1) (acc.push c) w cs (by simpa using hl) fun j d hd => by
      have := h (j + 1) d (by simpa using hd)
      rwa [show o + (i + 1) + j = o + i + (j + 1) by omega]
    refine this.trans ?_
    congr 1
    simp
theorem run_loadCells (P : Program) {b o : Nat} {n : Nat} {w : World} {cs : List Value} (hl : cs.length = n) (h : ∀ (j : Nat) c, cs[j]? = some c → w.cell? ⟨b, o + j, none⟩ = some c) :
    (loadCells ⟨b, o, none⟩ n).run P w = .ok cs.toArray w := by
  have := run_loadCellsFrom P (b := b) (o := o) n 0 #[] w cs hl fun j c hj => by rw [Nat.add_zero]; exact h j c hj
  unfold loadCells
  rw [this]
  simp

/-- The cells of a slice by value. -/
theorem RepC.cells {S bl w} : ∀ {vs : List V} {b o : Nat}, RepC S bl w vs b o → ∃ ds : List Value, RepL S bl w vs ds ∧ (∀ (j : Nat) c, ds[j]? = some c → w.cell? ⟨b, o + j, none⟩ = some c ∧ S b (o + j)) ∧ ∀ v ∈ vs, v.single = true
  | [], b, o, _ => ⟨[], by simp only [RepL], fun j c h => by simp at h, fun v h => by simp at h⟩
  | v :: vs, b, o, h => by
    simp only [RepC] at h
    obtain ⟨h1, h2, ⟨c, h3, h4⟩, h5⟩ := h
    obtain ⟨ds, a1, a2, a3⟩ := RepC.cells h5
    refine ⟨c :: ds, by simp only [RepL]; exact ⟨c, ds, rfl, h4, a1⟩, fun j d hd => ?_, fun u hu => ?_⟩
    · cases j with
      | zero => simp at hd; subst hd; exact ⟨h3, h1⟩
      | succ j =>
        have := a2 j d (by simpa using hd)
        rwa [show o + 1 + j = o + (j + 1) by omega] at this
    · rcases List.mem_cons.1 hu with rfl | hu
      · exact h2
      · exact a3 u hu

theorem RepL.oneCell {S bl w} {vs : List V} {ds : List Value} (h : RepL S bl w vs ds) (hs : ∀ v ∈ vs, v.single = true) : ∀ d ∈ ds, d.oneCell' = true := by
  obtain ⟨h1, h2⟩ := (RepL_iff vs ds).1 h
  intro d hd
  obtain ⟨j, hj⟩ := List.mem_iff_getElem?.1 hd
  obtain ⟨hjl, _⟩ := List.getElem?_eq_some_iff.1 hj
  have hv : vs[j]? = some vs[j] := List.getElem?_eq_getElem (by omega)
  exact ((h2 j _ _ hv hj).oneCell (hs _ (List.mem_of_getElem? hv))).1

namespace St
variable {lim : Option Nat} {B : Nat} {F : List Nat} {S : Nat → Nat → Prop} {bl : List Nat} {vals : List (V × Value)} {H : Heap} {w : World}

theorem ext_push (h : St lim B F S bl vals H w) (hB : B ≤ w.heap.size) (o : Go.Obj) : Ext lim B F S bl H w S bl H { w with heap := w.heap.push o } :=
  ⟨h.keeps_push o, fun b hb => ⟨push_old (h.base b (.inl hb)).2, fun _ x => x⟩, below_push _ hB, fun _ _ e => e, Nat.le_refl _, fun l hl => ⟨fun i b _ hb => push_old (h.base b (.inr (List.mem_of_getElem? hb))).2, rfl⟩⟩

/-- **A new slice by value.** -/
theorem newSl {cs : List V} {ds ex : List Value} (h : St lim B F S bl vals H w) (hB : B ≤ w.heap.size) (hr : RepL S bl w cs ds) (hs : ∀ v ∈ cs, v.single = true)
    {carr : Array Value} {e : TypeId} {lo hi n cap sz : Nat} (hc : carr.toList = ds ++ ex) (hf : ∀ o, o < carr.size → ¬ (lo ≤ o ∧ o < hi)) (hn : cs.length = n * sz) (hcap : n ≤ cap ∧ cap * sz ≤ carr.size) :
    ∃ S', St lim B F S' bl ((.sl (some sz) n cs, .slice (some ⟨w.heap.size, 0, none⟩) n cap) :: vals) H { w with heap := w.heap.push (.cells carr e (lo, hi)) } ∧
      Ext lim B F S bl H w S' bl H { w with heap := w.heap.push (.cells carr e (lo, hi)) } := by
  obtain ⟨hn1, hn2, hn3⟩ := h.size_free
  have hlen : cs.length = ds.length := ((RepL_iff cs ds).1 hr).1
  have hcell : ∀ (j : Nat) c, ds[j]? = some c → ({ w with heap := w.heap.push (.cells carr e (lo, hi)) } : World).cell? ⟨w.heap.size, j, none⟩ = some c := by
    intro j c hj
    rw [cell_of push_new, ← Array.getElem?_toList, hc, List.getElem?_append_left (List.getElem?_eq_some_iff.1 hj).1]
    exact hj
  have k0 := h.keeps_push (.cells carr e (lo, hi))
  have k : Keeps S w (fun b o => S b o ∨ (b = w.heap.size ∧ o < cs.length)) { w with heap := w.heap.push (.cells carr e (lo, hi)) } := ⟨fun b o x => .inl x, k0.cell, k0.size⟩
  have h1 : St lim B F (fun b o => S b o ∨ (b = w.heap.size ∧ o < cs.length)) bl vals H { w with heap := w.heap.push (.cells carr e (lo, hi)) } := by
    refine h.world (by simp) (fun b hb => push_old (h.held_lt hb).2) k ?_
    rintro b o (x | ⟨rfl, x⟩)
    · exact .inl x
    · refine .inr ⟨hn1, ?_⟩
      have hd : ds[o]? = some ds[o] := List.getElem?_eq_getElem (by omega)
      rw [hcell o _ hd]; rfl
  refine ⟨_, ?_, ⟨k, fun b hb => ⟨push_old (h.base b (.inl hb)).2, fun o x => ?_⟩, below_push _ hB, fun _ _ e => e, Nat.le_refl _, fun l hl => ⟨fun i b _ hb => push_old (h.base b (.inr (List.mem_of_getElem? hb))).2, rfl⟩⟩⟩
  · have hrep : Rep (fun b o => S b o ∨ (b = w.heap.size ∧ o < cs.length)) bl { w with heap := w.heap.push (.cells carr e (lo, hi)) } (.sl (some sz) n cs) (.slice (some ⟨w.heap.size, 0, none⟩) n cap) := by
      simp only [Rep]
      refine ⟨_, cap, rfl, hcap.1, (fun x => by cases x), fun ad had => ?_⟩
      cases had
      refine ⟨fun _ => rfl, (RepC_iff cs _ _).2 fun j v hj => ?_⟩
      obtain ⟨hj1, _⟩ := List.getElem?_eq_some_iff.1 hj
      have hd : ds[j]? = some ds[j] := List.getElem?_eq_getElem (by omega)
      exact ⟨.inr ⟨rfl, by simp only [Nat.zero_add]; omega⟩, hs v (List.mem_of_getElem? hj), _, by simp only [Nat.zero_add]; exact hcell j _ hd, Rep.mono k (fun _ _ e => e) v _ (V.noVia_of_single (hs v (List.mem_of_getElem? hj))) (((RepL_iff cs ds).1 hr).2 j v _ hj hd)⟩
    by_cases hcn : cap ≤ n
    · exact h1.add0 hrep (by simp [tips, tips2, tips1, hcn])
    have ht : vtips [(V.sl (some sz) n cs, Value.slice (some ⟨w.heap.size, 0, none⟩) n cap)] = [⟨w.heap.size, 0, n, cap, sz⟩] := by simp [vtips, tips, tips2, tips1, hcn]
    refine St.add (us := [(_, _)]) ⟨h1.rep, h1.len, h1.obj, ?_, h1.tip, h1.stab, ?_, h1.refs, h1.sep⟩ ?_ ?_
    · intro x
      rw [ht]
      have := h1.nodup x
      simp only [blks, List.map_cons, List.map_nil, List.count_append, List.count_cons, List.count_nil] at this ⊢
      by_cases hx : w.heap.size = x
      · subst hx
        have a1 := count_zero_of hn2
        have a2 : ind bl w.heap.size = 0 := ind_zero fun y => hn1 (.inl y)
        have a3 : ((vtips vals).map Tp.blk).count w.heap.size = 0 := count_zero_of fun y => hn1 (.inr (.inl y))
        have a4 : ((htips { w with heap := w.heap.push (.cells carr e (lo, hi)) } H bl).map Tp.blk).count w.heap.size = 0 := count_zero_of fun y => by
          rw [htips_same H bl fun b hb => push_old (h.base b (.inr hb)).2] at y
          exact hn1 (.inr (.inr y))
        simp only [beq_self_eq_true, if_true]
        omega
      · have hx' : (w.heap.size == x) = false := by simpa using hx
        simp only [hx', Bool.false_eq_true, if_false]; omega
    · intro b hb
      rcases hb with hb | hb
      · rcases List.mem_append.1 hb with hb | hb
        · exact h1.base b (.inl hb)
        · rw [ht] at hb; simp at hb; subst hb; exact ⟨hB, by simp⟩
      · exact h1.base b (.inr hb)
    · intro p hp
      simp at hp; subst hp
      exact hrep
    · intro t ht'
      rw [ht] at ht'; simp at ht'; subst ht'
      exact ⟨⟨carr, e, lo, hi, push_new, by simpa using hcap.2, fun o _ ho => hf o ho⟩, fun o ho x => by
        rcases x with x | ⟨_, x⟩
        · exact hn3 o x
        · simp only [Nat.zero_add] at ho; omega, hcap.1⟩
  · rcases x with x | ⟨rfl, _⟩
    · exact x
    · exact absurd hb hn2

/-- **Appending in place.** -/
theorem appendIn {cs us : List V} {es : List Value} {sz n m cap : Nat} {ad : Addr} (h : St lim B F S bl ((.sl (some sz) n cs, .slice (some ad) n cap) :: vals) H w)
    (hr : RepL S bl w us es) (hs : ∀ v ∈ us, v.single = true) (hn : cs.length = n * sz) (hm : us.length = m * sz) (hcap : n + m ≤ cap) :
    ∃ S', St lim B F S' bl ((.sl (some sz) (n + m) (cs ++ us), .slice (some ad) (n + m) cap) :: vals) H (setCells w ad.block (ad.off + n * sz) es) ∧
      Ext lim B F S bl H w S' bl H (setCells w ad.block (ad.off + n * sz) es) := by
  have hrep := h.rep _ (List.mem_cons_self ..)
  simp only [Rep] at hrep
  obtain ⟨a, cap', he, hle, _, hcells⟩ := hrep
  cases he
  obtain ⟨hsp, hC⟩ := hcells ad rfl
  by_cases hcn : cap ≤ n
  · have hm0 : m = 0 := by omega
    subst hm0
    have hu : us = [] := List.length_eq_zero_iff.1 (by rw [hm]; simp)
    subst hu
    have he0 : es = [] := by simpa [RepL] using hr
    subst he0
    exact ⟨S, by simpa [setCells] using h, by simpa [setCells] using Ext.refl _ _ _ _ _ _ _⟩
  have htl : vtips [(V.sl (some sz) n cs, Value.slice (some ad) n cap)] = [⟨ad.block, ad.off, n, cap, sz⟩] := by simp [vtips, tips, tips2, tips1, hcn]
  have ht0 := (h.tip ⟨ad.block, ad.off, n, cap, sz⟩ (.inl (by simp [vtips, tips, tips2, tips1, hcn]))).1
  have hB0 := (h.tip ⟨ad.block, ad.off, n, cap, sz⟩ (.inl (by simp [vtips, tips, tips2, tips1, hcn]))).2
  obtain ⟨carr, e, lo, hi, hw, hsz, hfz⟩ := ht0.ex
  simp only at hw hsz hfz hB0
  have hlen : us.length = es.length := ((RepL_iff us es).1 hr).1
  have hmul : (n + m) * sz ≤ cap * sz := Nat.mul_le_mul_right sz hcap
  rw [Nat.add_mul] at hmul
  obtain ⟨q1, q2, q3, q4, q5, carr', q6, q7, q8⟩ := setCells_spec es w ad.block (ad.off + n * sz) carr e (lo, hi) hw
  have hnb : ad.block ∉ bl := fun x => by
    have := h.nodup ad.block
    have hc := ind_mem x
    simp only [vtips, tips, tips2, tips1, hcn, if_false, blks, List.map_append, List.map_cons, List.count_append, List.count_cons_self] at this
    omega
  have hcellold : ∀ b o, S b o → (setCells w ad.block (ad.off + n * sz) es).cell? ⟨b, o, none⟩ = w.cell? ⟨b, o, none⟩ := by
    intro b o x
    by_cases hb : b = ad.block
    · subst hb
      rw [cell_of hw, cell_of q6, q8 o, if_neg]
      rintro ⟨y, _⟩
      exact ht0.free o y x
    · exact cell_same (q2 b hb) o
  have k : Keeps S w (fun b o => S b o ∨ (b = ad.block ∧ ad.off + n * sz ≤ o ∧ o < ad.off + n * sz + us.length)) (setCells w ad.block (ad.off + n * sz) es) := ⟨fun b o x => .inl x, hcellold, fun b k x => by
    by_cases hb : b = ad.block
    · subst hb
      obtain ⟨c0, t0, f0, x1, x2⟩ := x
      rw [hw] at x1
      cases x1
      exact ⟨_, _, _, q6, by omega⟩
    · exact x.same (q2 b hb)⟩
  have h0 : St lim B (F ++ blks (vtips [(V.sl (some sz) n cs, Value.slice (some ad) n cap)])) S bl vals H w := St.rem (us := [(_, _)]) h
  have hnheld : ¬ held w vals H bl ad.block := by
    have := h0.nodup ad.block
    rw [htl] at this
    simp only [blks, List.map_cons, List.map_nil, List.count_append, List.count_cons_self, List.count_nil] at this
    rintro (x | x | x)
    · exact hnb x
    · have : 1 ≤ ((vtips vals).map Tp.blk).count ad.block := mem_count x; omega
    · have : 1 ≤ ((htips w H bl).map Tp.blk).count ad.block := mem_count x; omega
  have hnew : ∀ (j : Nat) d, es[j]? = some d → (setCells w ad.block (ad.off + n * sz) es).cell? ⟨ad.block, ad.off + n * sz + j, none⟩ = some d := by
    intro j d hd
    obtain ⟨hj, _⟩ := List.getElem?_eq_some_iff.1 hd
    rw [cell_of q6, q8, if_pos (by omega), show ad.off + n * sz + j - (ad.off + n * sz) = j by omega]; exact hd
  have htl2 : ∀ t ∈ vtips [(V.sl (some sz) (n + m) (cs ++ us), Value.slice (some ad) (n + m) cap)], t = ⟨ad.block, ad.off, n + m, cap, sz⟩ := fun t ht => by
    simp only [vtips, tips, tips2, tips1, List.append_nil] at ht
    split at ht
    · cases ht
    · simpa using ht
  have hcnt : ∀ x, (blks (vtips [(V.sl (some sz) (n + m) (cs ++ us), Value.slice (some ad) (n + m) cap)])).count x ≤ (blks (vtips [(V.sl (some sz) n cs, Value.slice (some ad) n cap)])).count x := fun x => by
    rw [htl]
    simp only [vtips, tips, tips2, tips1, List.append_nil]
    split <;> simp [blks]
  have h1 : St lim B (F ++ blks (vtips [(V.sl (some sz) (n + m) (cs ++ us), Value.slice (some ad) (n + m) cap)])) (fun b o => S b o ∨ (b = ad.block ∧ ad.off + n * sz ≤ o ∧ o < ad.off + n * sz + us.length)) bl vals H (setCells w ad.block (ad.off + n * sz) es) := by
    refine St.unframe (h0.world (Nat.le_of_eq q1.symm) (fun b hb => q2 b (by rintro rfl; exact hnheld hb)) k ?_) (fun x => by have := hcnt x; simp only [List.count_append]; omega)
    rintro b o (x | ⟨rfl, x1, x2⟩)
    · exact .inl x
    · refine .inr ⟨hnheld, ?_⟩
      have hd : es[o - (ad.off + n * sz)]? = some es[o - (ad.off + n * sz)] := List.getElem?_eq_getElem (by omega)
      have := hnew _ _ hd
      rw [show ad.off + n * sz + (o - (ad.off + n * sz)) = o by omega] at this
      rw [this]; rfl
  refine ⟨_, St.add (us := [(_, _)]) h1 ?_ ?_, ⟨k, fun b hb => ⟨q2 b ?_, fun o x => ?_⟩, ⟨q3, q4, q5, Nat.le_of_eq q1.symm, fun b hb => q2 b (by omega)⟩, fun _ _ e => e, Nat.le_refl _, fun l hl => ⟨fun i b _ hb => q2 b ?_, rfl⟩⟩⟩
  · intro p hp
    simp at hp; subst hp
    simp only [Rep]
    refine ⟨_, cap, rfl, hcap, (fun x => by cases x), fun ad' had => ?_⟩
    cases had
    refine ⟨hsp, (RepC_iff _ _ _).2 fun j v hj => ?_⟩
    by_cases hj1 : j < cs.length
    · rw [List.getElem?_append_left hj1] at hj
      obtain ⟨a1, a2, c, a3, a4⟩ := (RepC_iff cs _ _).1 hC j v hj
      exact ⟨.inl a1, a2, c, by rw [hcellold _ _ a1]; exact a3, Rep.mono k (fun _ _ e => e) v c (V.noVia_of_single a2) a4⟩
    · rw [List.getElem?_append_right (by omega)] at hj
      obtain ⟨hj2, _⟩ := List.getElem?_eq_some_iff.1 hj
      have hd : es[j - cs.length]? = some es[j - cs.length] := List.getElem?_eq_getElem (by omega)
      refine ⟨.inr ⟨rfl, by omega, by omega⟩, hs v (List.mem_of_getElem? hj), _, ?_, Rep.mono k (fun _ _ e => e) v _ (V.noVia_of_single (hs v (List.mem_of_getElem? hj))) (((RepL_iff us es).1 hr).2 _ v _ hj hd)⟩
      have := hnew _ _ hd
      rwa [show ad.off + n * sz + (j - cs.length) = ad.off + j by omega] at this
  · intro t ht'
    have := htl2 t ht'
    subst this
    refine ⟨⟨carr', e, lo, hi, q6, by simpa [q7] using hsz, fun o ho ho' => hfz o (by simp only [Nat.add_mul] at ho; omega) (by omega)⟩, fun o ho x => ?_, hcap⟩
    simp only [Nat.add_mul] at ho
    rcases x with x | ⟨_, x1, x2⟩
    · exact ht0.free o (by simp only; omega) x
    · omega
  · rintro rfl
    have := h.nodup ad.block
    have hc := mem_count hb
    simp only [vtips, tips, tips2, tips1, hcn, if_false, blks, List.map_append, List.map_cons, List.count_append, List.count_cons_self] at this
    omega
  · rcases x with x | ⟨rfl, _⟩
    · exact x
    · exfalso
      have := h.nodup ad.block
      have hc := mem_count hb
      simp only [vtips, tips, tips2, tips1, hcn, if_false, blks, List.map_append, List.map_cons, List.count_append, List.count_cons_self] at this
      omega
  · rintro rfl
    exact hnb (List.mem_of_getElem? hb)
end St
end Go.Abs
