/-
  The relation between an abstract state and a world, and how it is carried over each kind of change.
-/
import Derived.Test.YtcfefgeheibadaaAbsR
namespace Go.Abs
open Go.RowKit (Below)
set_option linter.unusedVariables false

/-! ### Slices that may be appended to -/
structure Tp where
  blk : Nat
  off : Nat
  n : Nat
  cap : Nat
  sz : Nat

def tips1 : V → Value → List Tp
  | .sl (some sz) n _, .slice (some ad) _ cap => if cap ≤ n then [] else [⟨ad.block, ad.off, n, cap, sz⟩]
  | _, _ => []
def tipsL : List V → List Value → List Tp
  | v :: vs, c :: cs => tips1 v c ++ tipsL vs cs
  | _, _ => []
def tips2 : V → Value → List Tp
  | .agg vs, .agg a => tipsL vs a.toList
  | v, c => tips1 v c
def tipsM : List V → List Value → List Tp
  | v :: vs, c :: cs => tips2 v c ++ tipsM vs cs
  | _, _ => []
def tips : V → Value → List Tp
  | .tup vs, .tuple a => tipsM vs a.toList
  | v, c => tips2 v c

def ctips (w : World) : List V → Nat → Nat → List Tp
  | [], _, _ => []
  | v :: vs, b, o => tips1 v ((w.cell? ⟨b, o, none⟩).getD undef) ++ ctips w vs b (o + 1)
def htips (w : World) : Heap → List Nat → List Tp
  | cs :: H, b :: bl => ctips w cs b 0 ++ htips w H bl
  | _, _ => []
def vtips : List (V × Value) → List Tp
  | [] => []
  | p :: r => tips p.1 p.2 ++ vtips r
abbrev blks (l : List Tp) : List Nat := l.map Tp.blk

theorem tips1_dis1 (v : V) (c : Value) : tips1 v.dis1 c = [] := by cases v <;> rfl
theorem tipsL_dis1 : ∀ (vs : List V) (cs : List Value), tipsL (vs.map V.dis1) cs = []
  | [], _ => rfl
  | _ :: _, [] => rfl
  | v :: vs, c :: cs => by simp only [List.map_cons, tipsL, tips1_dis1, tipsL_dis1 vs cs, List.append_nil]
theorem tips2_dis2 (v : V) (c : Value) : tips2 v.dis2 c = [] := by
  cases v with
  | agg vs => cases c <;> first | rfl | exact tipsL_dis1 _ _
  | _ => rfl
theorem tipsM_dis2 : ∀ (vs : List V) (cs : List Value), tipsM (vs.map V.dis2) cs = []
  | [], _ => rfl
  | _ :: _, [] => rfl
  | v :: vs, c :: cs => by simp only [List.map_cons, tipsM, tips2_dis2, tipsM_dis2 vs cs, List.append_nil]
theorem tips_dis (v : V) (c : Value) : tips v.dis c = [] := by
  cases v with
  | tup vs => cases c <;> first | rfl | exact tipsM_dis2 _ _
  | agg vs => cases c <;> first | rfl | exact tipsL_dis1 _ _
  | _ => rfl
theorem tips_single {v : V} {c : Value} (h : v.noVia = true ∨ True) (hs : v.single = true ∨ v.noVia = false) : tips v c = tips1 v c := by
  cases v <;> first | rfl | (rcases hs with hs | hs <;> cases hs)
theorem vtips_append (a b : List (V × Value)) : vtips (a ++ b) = vtips a ++ vtips b := by
  induction a with
  | nil => rfl
  | cons p r ih => simp only [List.cons_append, vtips, ih, List.append_assoc]

structure TipOK (S : Nat → Nat → Prop) (w : World) (t : Tp) : Prop where
  ex : ∃ carr e lo hi, w.heap[t.blk]? = some (.cells carr e (lo, hi)) ∧ t.off + t.cap * t.sz ≤ carr.size ∧ ∀ o, t.off + t.n * t.sz ≤ o → o < carr.size → ¬ (lo ≤ o ∧ o < hi)
  free : ∀ o, t.off + t.n * t.sz ≤ o → ¬ S t.blk o
  le : t.n ≤ t.cap

structure Obj (S : Nat → Nat → Prop) (bl : List Nat) (w : World) (cs : List V) (b : Nat) : Prop where
  ex : ∃ carr e lo hi, w.heap[b]? = some (.cells carr e (lo, hi)) ∧ cs.length ≤ carr.size ∧ ∀ o, o < carr.size → ¬ (lo ≤ o ∧ o < hi)
  rep : ∀ (j : Nat) (v : V), cs[j]? = some v → v.single = true ∧ ∃ c, w.cell? ⟨b, j, none⟩ = some c ∧ Rep S bl w v c

/-- 1 if it is there. -/
def ind (l : List Nat) (x : Nat) : Nat := if x ∈ l then 1 else 0
theorem ind_mem {l : List Nat} {x : Nat} (h : x ∈ l) : ind l x = 1 := if_pos h
theorem ind_zero {l : List Nat} {x : Nat} (h : x ∉ l) : ind l x = 0 := if_neg h
theorem ind_take {l : List Nat} {m x : Nat} : ind (l.take m) x ≤ ind l x := by
  by_cases h : x ∈ l.take m
  · rw [ind_mem h, ind_mem (List.mem_of_mem_take h)]; exact Nat.le_refl _
  · rw [ind_zero h]; exact Nat.zero_le _
theorem ind_snoc {l : List Nat} {n x : Nat} (hn : n ∉ l) : ind (l ++ [n]) x = ind l x + if n == x then 1 else 0 := by
  by_cases hx : n = x
  · subst hx
    rw [ind_zero hn, ind_mem (by simp)]; simp
  · have : (n == x) = false := by simpa using hx
    rw [this]
    by_cases h : x ∈ l
    · rw [ind_mem h, ind_mem (by simp [h])]; rfl
    · rw [ind_zero h, ind_zero (by simp [h, Ne.symm hx])]; rfl
/-- Each once. -/
def dd : List Nat → List Nat
  | [] => []
  | x :: l => if x ∈ l then dd l else x :: dd l
theorem mem_dd {x : Nat} : ∀ {l : List Nat}, x ∈ dd l ↔ x ∈ l
  | [] => .rfl
  | y :: l => by
    unfold dd
    by_cases h : y ∈ l
    · rw [if_pos h, mem_dd, List.mem_cons]
      exact ⟨.inr, fun k => k.elim (fun e => by rw [e]; exact h) id⟩
    · rw [if_neg h, List.mem_cons, List.mem_cons, mem_dd]
theorem count_dd {x : Nat} : ∀ {l : List Nat}, (dd l).count x = ind l x
  | [] => rfl
  | y :: l => by
    unfold dd
    by_cases h : y ∈ l
    · rw [if_pos h, count_dd]
      by_cases hx : x ∈ l
      · rw [ind_mem hx, ind_mem (List.mem_cons_of_mem _ hx)]
      · rw [ind_zero hx, ind_zero (fun k => (List.mem_cons.1 k).elim (fun e => hx (by rw [e]; exact h)) hx)]
    · rw [if_neg h, List.count_cons, count_dd]
      by_cases hx : y = x
      · subst hx
        rw [ind_zero h, ind_mem (List.mem_cons_self ..)]; simp
      · have : (y == x) = false := by simpa using hx
        rw [this]
        by_cases hl : x ∈ l
        · rw [ind_mem hl, ind_mem (List.mem_cons_of_mem _ hl)]; rfl
        · rw [ind_zero hl, ind_zero (fun k => (List.mem_cons.1 k).elim (fun e => hx e.symm) hl)]; rfl

/-- The state of a call: values at hand, objects, what the fellows outside hold (F). -/
structure St (lim : Option Nat) (B : Nat) (F : List Nat) (S : Nat → Nat → Prop) (bl : List Nat) (vals : List (V × Value)) (H : Heap) (w : World) : Prop where
  rep : ∀ p ∈ vals, Rep S bl w p.1 p.2
  len : H.length = bl.length
  obj : ∀ (i : Nat) cs b, H[i]? = some cs → bl[i]? = some b → Obj S bl w cs b
  nodup : ∀ x, F.count x + ind bl x + (blks (vtips vals)).count x + (blks (htips w H bl)).count x ≤ 1
  tip : ∀ t, (t ∈ vtips vals ∨ t ∈ htips w H bl) → TipOK S w t ∧ B ≤ t.blk
  stab : ∀ b o, S b o → b ∉ bl ∧ (w.cell? ⟨b, o, none⟩).isSome = true
  base : ∀ b, (b ∈ F ∨ b ∈ bl) → B ≤ b ∧ b < w.heap.size
  refs : ∀ l, lim = some l → l ≤ H.length ∧ (∀ (i : Nat) cs, i < l → H[i]? = some cs → V.rbL l cs = true) ∧ ∀ i j b : Nat, i < l → l ≤ j → bl[i]? = some b → bl[j]? ≠ some b
  sep : ∀ (i j b : Nat) cs ds, i ≠ j → bl[i]? = some b → bl[j]? = some b → H[i]? = some cs → H[j]? = some ds → cs = [] ∨ ds = []

/-- What an action may do. -/
structure Ext (lim : Option Nat) (B : Nat) (F : List Nat) (S : Nat → Nat → Prop) (bl : List Nat) (H : Heap) (w : World) (S' : Nat → Nat → Prop) (bl' : List Nat) (H' : Heap) (w' : World) : Prop where
  keeps : Keeps S w S' w'
  frame : ∀ b ∈ F, w'.heap[b]? = w.heap[b]? ∧ ∀ o, S' b o → S b o
  below : Below B w w'
  bls : ∀ (i b : Nat), bl[i]? = some b → bl'[i]? = some b
  len : H.length ≤ H'.length
  objs : ∀ l, lim = some l → (∀ (i b : Nat), i < l → bl[i]? = some b → w'.heap[b]? = w.heap[b]?) ∧ H'.take l = H.take l

theorem Keeps.refl (S w) : Keeps S w S w := ⟨fun _ _ h => h, fun _ _ _ => rfl, fun _ _ h => h⟩
theorem Keeps.trans {S w S' w' S'' w''} (h : Keeps S w S' w') (k : Keeps S' w' S'' w'') : Keeps S w S'' w'' :=
  ⟨fun b o x => k.more b o (h.more b o x), fun b o x => (k.cell b o (h.more b o x)).trans (h.cell b o x), fun b n x => k.size b n (h.size b n x)⟩
theorem Ext.refl (lim B F S bl H w) : Ext lim B F S bl H w S bl H w :=
  ⟨Keeps.refl _ _, fun _ _ => ⟨rfl, fun _ h => h⟩, Below.refl _ _, fun _ _ h => h, Nat.le_refl _, fun _ _ => ⟨fun _ _ _ _ => rfl, rfl⟩⟩
theorem Ext.trans {lim B F S bl H w S' bl' H' w' S'' bl'' H'' w''} (h : Ext lim B F S bl H w S' bl' H' w') (k : Ext lim B F S' bl' H' w' S'' bl'' H'' w'') : Ext lim B F S bl H w S'' bl'' H'' w'' where
  keeps := h.keeps.trans k.keeps
  frame b hb := ⟨(k.frame b hb).1.trans (h.frame b hb).1, fun o x => (h.frame b hb).2 o ((k.frame b hb).2 o x)⟩
  below := h.below.trans k.below
  bls i b e := k.bls i b (h.bls i b e)
  len := Nat.le_trans h.len k.len
  objs l e := ⟨fun i b hi hb => ((k.objs l e).1 i b hi (h.bls i b hb)).trans ((h.objs l e).1 i b hi hb), (k.objs l e).2.trans (h.objs l e).2⟩
theorem Ext.less {lim B F F' S bl H w S' bl' H' w'} (h : Ext lim B F' S bl H w S' bl' H' w') (hF : ∀ b ∈ F, b ∈ F') : Ext lim B F S bl H w S' bl' H' w' :=
  ⟨h.keeps, fun b hb => h.frame b (hF b hb), h.below, h.bls, h.len, h.objs⟩

theorem cell_same {w w' : World} {b : Nat} (h : w'.heap[b]? = w.heap[b]?) (o : Nat) : w'.cell? ⟨b, o, none⟩ = w.cell? ⟨b, o, none⟩ := by
  simp only [World.cell?, h]
theorem cell_of {w : World} {b : Nat} {carr : Array Value} {e : TypeId} {f : Nat × Nat} (h : w.heap[b]? = some (.cells carr e f)) (o : Nat) : w.cell? ⟨b, o, none⟩ = carr[o]? := by
  simp [World.cell?, h]
theorem lt_of_heap {w : World} {b : Nat} {o : Go.Obj} (h : w.heap[b]? = some o) : b < w.heap.size := (Array.getElem?_eq_some_iff.1 h).1
theorem lt_of_cell {w : World} {b o : Nat} {v : Value} (h : w.cell? ⟨b, o, none⟩ = some v) : b < w.heap.size := by
  by_cases hb : b < w.heap.size
  · exact hb
  · simp [World.cell?, Array.getElem?_eq_none (Nat.le_of_not_lt hb)] at h

theorem ctips_same {w w' : World} {b : Nat} (h : w'.heap[b]? = w.heap[b]?) : ∀ (vs : List V) (o : Nat), ctips w' vs b o = ctips w vs b o
  | [], _ => rfl
  | v :: vs, o => by simp only [ctips, cell_same h o, ctips_same h vs (o + 1)]
theorem htips_same {w w' : World} : ∀ (H : Heap) (bl : List Nat), (∀ b ∈ bl, w'.heap[b]? = w.heap[b]?) → htips w' H bl = htips w H bl
  | [], _, _ => by simp only [htips]
  | _ :: _, [], _ => by simp only [htips]
  | cs :: H, b :: bl, h => by
    simp only [htips, ctips_same (h b (List.mem_cons_self ..)) cs 0, htips_same H bl fun x hx => h x (List.mem_cons_of_mem _ hx)]

/-- Likewise, where what has gone may differ. -/
theorem htips_live {w w' : World} : ∀ (H : Heap) (bl : List Nat), (∀ (i : Nat) cs b, H[i]? = some cs → bl[i]? = some b → cs = [] ∨ w'.heap[b]? = w.heap[b]?) → htips w' H bl = htips w H bl
  | [], _, _ => by simp only [htips]
  | _ :: _, [], _ => by simp only [htips]
  | cs :: H, b :: bl, h => by
    have e := htips_live H bl fun i ds x h1 h2 => h (i + 1) ds x (by simpa using h1) (by simpa using h2)
    rcases h 0 cs b rfl rfl with rfl | h0
    · simp only [htips, ctips, e]
    · simp only [htips, ctips_same h0 cs 0, e]
theorem Obj.mono {S S' : Nat → Nat → Prop} {bl bl' : List Nat} {w w' : World} (k : Keeps S w S' w') (hb : ∀ i b : Nat, bl[i]? = some b → bl'[i]? = some b) {cs : List V} {b : Nat} (hs : w'.heap[b]? = w.heap[b]?) (h : Obj S bl w cs b) : Obj S' bl' w' cs b := by
  refine ⟨by rw [hs]; exact h.ex, fun j v hj => ?_⟩
  obtain ⟨h1, c, h2, h3⟩ := h.rep j v hj
  exact ⟨h1, c, by rw [cell_same hs]; exact h2, Rep.mono k hb v c (V.noVia_of_single h1) h3⟩
theorem TipOK.mono {S S' : Nat → Nat → Prop} {w w' : World} {t : Tp} (hs : w'.heap[t.blk]? = w.heap[t.blk]?) (hS : ∀ o, S' t.blk o → S t.blk o) (h : TipOK S w t) : TipOK S' w' t :=
  ⟨by rw [hs]; exact h.ex, fun o ho x => h.free o ho (hS o x), h.le⟩
theorem TipOK.lt {S w t} (h : TipOK S w t) : t.blk < w.heap.size := by obtain ⟨carr, e, lo, hi, h1, _⟩ := h.ex; exact lt_of_heap h1

namespace St
variable {lim : Option Nat} {B : Nat} {F : List Nat} {S : Nat → Nat → Prop} {bl : List Nat} {vals : List (V × Value)} {H : Heap} {w : World}

theorem mem_count {l : List Nat} {x : Nat} (h : x ∈ l) : 1 ≤ l.count x := List.one_le_count_iff.2 h
theorem count_mem {l : List Nat} {x : Nat} (h : 1 ≤ l.count x) : x ∈ l := List.one_le_count_iff.1 h

/-- The blocks that a state itself holds. -/
def held (w : World) (vals : List (V × Value)) (H : Heap) (bl : List Nat) (b : Nat) : Prop := b ∈ bl ∨ b ∈ blks (vtips vals) ∨ b ∈ blks (htips w H bl)

theorem held_lt (h : St lim B F S bl vals H w) {b : Nat} (hb : held w vals H bl b) : B ≤ b ∧ b < w.heap.size := by
  rcases hb with hb | hb | hb
  · exact h.base b (.inr hb)
  · obtain ⟨t, ht, rfl⟩ := List.mem_map.1 hb
    exact ⟨(h.tip t (.inl ht)).2, (h.tip t (.inl ht)).1.lt⟩
  · obtain ⟨t, ht, rfl⟩ := List.mem_map.1 hb
    exact ⟨(h.tip t (.inr ht)).2, (h.tip t (.inr ht)).1.lt⟩

/-- **The world changes elsewhere.** -/
theorem world (h : St lim B F S bl vals H w) {S' : Nat → Nat → Prop} {w' : World} (hsz : w.heap.size ≤ w'.heap.size)
    (same : ∀ b, held w vals H bl b → w'.heap[b]? = w.heap[b]?) (k : Keeps S w S' w')
    (fresh : ∀ b o, S' b o → S b o ∨ (¬ held w vals H bl b ∧ (w'.cell? ⟨b, o, none⟩).isSome = true)) : St lim B F S' bl vals H w' := by
  have hbl : ∀ b ∈ bl, w'.heap[b]? = w.heap[b]? := fun b hb => same b (.inl hb)
  have hh := htips_same H bl hbl
  refine ⟨fun p hp => Rep.mono_via k (fun _ _ e => e) (fun i b o e => cell_same (hbl b (List.mem_of_getElem? e)) o) _ _ (h.rep p hp), h.len,
    fun i cs b hi hb => (h.obj i cs b hi hb).mono k (fun _ _ e => e) (hbl b (List.mem_of_getElem? hb)), by rw [hh]; exact h.nodup, ?_, ?_,
    fun b hb => ⟨(h.base b hb).1, Nat.lt_of_lt_of_le (h.base b hb).2 hsz⟩, h.refs, h.sep⟩
  · rw [hh]
    intro t ht
    have hd : held w vals H bl t.blk := ht.elim (fun x => .inr (.inl (List.mem_map.2 ⟨t, x, rfl⟩))) fun x => .inr (.inr (List.mem_map.2 ⟨t, x, rfl⟩))
    refine ⟨(h.tip t ht).1.mono (same _ hd) fun o x => ?_, (h.tip t ht).2⟩
    rcases fresh _ _ x with x | x
    · exact x
    · exact absurd hd x.1
  · intro b o x
    rcases fresh b o x with x | ⟨x, y⟩
    · obtain ⟨h1, h2⟩ := h.stab b o x
      exact ⟨h1, by rw [k.cell b o x]; exact h2⟩
    · exact ⟨fun hb => x (.inl hb), y⟩

/-- Values in another order, or fewer. -/
theorem sub (h : St lim B F S bl vals H w) {vals' : List (V × Value)} (hm : ∀ p ∈ vals', p ∈ vals) (ht : ∀ t ∈ vtips vals', t ∈ vtips vals)
    (hc : ∀ x, (blks (vtips vals')).count x ≤ (blks (vtips vals)).count x) : St lim B F S bl vals' H w :=
  ⟨fun p hp => h.rep p (hm p hp), h.len, h.obj, fun x => by have := h.nodup x; have := hc x; omega, fun t k => h.tip t (k.imp (ht t) id), h.stab, h.base, h.refs, h.sep⟩
theorem drop {p : V × Value} (h : St lim B F S bl (p :: vals) H w) : St lim B F S bl vals H w :=
  h.sub (fun _ hp => List.mem_cons_of_mem _ hp) (fun t ht => List.mem_append_right _ ht) fun x => by simp only [vtips, blks, List.map_append, List.count_append]; omega
theorem drops {us : List (V × Value)} (h : St lim B F S bl (us ++ vals) H w) : St lim B F S bl vals H w := by
  induction us with
  | nil => exact h
  | cons p r ih => exact ih (h.drop)
theorem vtips_mem {l : List (V × Value)} {t : Tp} : t ∈ vtips l ↔ ∃ p ∈ l, t ∈ tips p.1 p.2 := by
  induction l with
  | nil => simp [vtips]
  | cons p r ih => simp [vtips, ih]
theorem vtips_perm {a b : List (V × Value)} (h : a.Perm b) : (vtips a).Perm (vtips b) := by
  induction h with
  | nil => exact .refl _
  | cons p _ ih => exact .append_left _ ih
  | swap p q r => simp only [vtips, ← List.append_assoc]; exact .append_right _ List.perm_append_comm
  | trans _ _ ih1 ih2 => exact ih1.trans ih2
theorem perm (h : St lim B F S bl vals H w) {vals' : List (V × Value)} (hp : vals'.Perm vals) : St lim B F S bl vals' H w :=
  h.sub (fun p hm => hp.mem_iff.1 hm) (fun t ht => (vtips_perm hp).mem_iff.1 ht) fun x => Nat.le_of_eq (((vtips_perm hp).map Tp.blk).count_eq x)
/-- A copy, without leave to append. -/
theorem copy {p : V × Value} (h : St lim B F S bl vals H w) (hp : p ∈ vals) {v : V} (hv : ∀ S' bl' w', Rep S' bl' w' p.1 p.2 → Rep S' bl' w' v p.2) (hn : tips v p.2 = []) : St lim B F S bl ((v, p.2) :: vals) H w := by
  have e : vtips ((v, p.2) :: vals) = vtips vals := by simp only [vtips, hn, List.nil_append]
  refine ⟨?_, h.len, h.obj, by rw [e]; exact h.nodup, by rw [e]; exact h.tip, h.stab, h.base, h.refs, h.sep⟩
  intro q hq
  rcases List.mem_cons.1 hq with rfl | hq
  · exact hv _ _ _ (h.rep p hp)
  · exact h.rep q hq
/-- A value that holds no leave to append. -/
theorem add0 {v : V} {c : Value} (h : St lim B F S bl vals H w) (hr : Rep S bl w v c) (hn : tips v c = []) : St lim B F S bl ((v, c) :: vals) H w := by
  have e : vtips ((v, c) :: vals) = vtips vals := by simp only [vtips, hn, List.nil_append]
  refine ⟨?_, h.len, h.obj, by rw [e]; exact h.nodup, by rw [e]; exact h.tip, h.stab, h.base, h.refs, h.sep⟩
  intro q hq
  rcases List.mem_cons.1 hq with rfl | hq
  · exact hr
  · exact h.rep q hq
/-- Into the frame, and back. -/
theorem rem {us : List (V × Value)} (h : St lim B F S bl (us ++ vals) H w) : St lim B (F ++ blks (vtips us)) S bl vals H w := by
  refine ⟨fun p hp => h.rep p (List.mem_append_right _ hp), h.len, h.obj, fun x => ?_, fun t ht => h.tip t (ht.imp (fun y => by rw [vtips_append]; exact List.mem_append_right _ y) id), h.stab, ?_, h.refs, h.sep⟩
  · have := h.nodup x
    rw [vtips_append] at this
    simp only [blks, List.map_append, List.count_append] at this ⊢
    omega
  · intro b hb
    rcases hb with hb | hb
    · rcases List.mem_append.1 hb with hb | hb
      · exact h.base b (.inl hb)
      · exact h.held_lt (.inr (.inl (by rw [vtips_append]; simp only [blks, List.map_append]; exact List.mem_append_left _ hb)))
    · exact h.base b (.inr hb)
theorem add {us : List (V × Value)} (h : St lim B (F ++ blks (vtips us)) S bl vals H w) (hr : ∀ p ∈ us, Rep S bl w p.1 p.2) (ht : ∀ t ∈ vtips us, TipOK S w t) : St lim B F S bl (us ++ vals) H w := by
  refine ⟨fun p hp => (List.mem_append.1 hp).elim (hr p) (h.rep p), h.len, h.obj, fun x => ?_, ?_, h.stab, fun b hb => h.base b (hb.imp (List.mem_append_left _) id), h.refs, h.sep⟩
  · have := h.nodup x
    rw [vtips_append]
    simp only [blks, List.map_append, List.count_append] at this ⊢
    omega
  · intro t ht'
    rw [vtips_append] at ht'
    rcases ht' with ht' | ht'
    · rcases List.mem_append.1 ht' with ht' | ht'
      · exact ⟨ht t ht', (h.base t.blk (.inl (List.mem_append_right _ (List.mem_map.2 ⟨t, ht', rfl⟩)))).1⟩
      · exact h.tip t (.inl ht')
    · exact h.tip t (.inr ht')
/-- Fewer in the frame. -/
theorem unframe {F' : List Nat} (h : St lim B F' S bl vals H w) (hc : ∀ x, F.count x ≤ F'.count x) : St lim B F S bl vals H w := by
  refine ⟨h.rep, h.len, h.obj, fun x => by have := h.nodup x; have := hc x; omega, h.tip, h.stab, fun b hb => h.base b (hb.imp (fun y => ?_) id), h.refs, h.sep⟩
  exact count_mem (Nat.le_trans (mem_count y) (hc b))
end St
end Go.Abs
