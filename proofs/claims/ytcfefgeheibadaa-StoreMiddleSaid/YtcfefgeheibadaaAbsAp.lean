/-
  Appending to a slice that is an object: the object goes, its block or a new one becomes another object.
-/
import Derived.Test.YtcfefgeheibadaaAbsZ
namespace Go.Abs
open Go.RowKit (Below)
set_option linter.unusedVariables false

section
variable {P : Program} {lim : Option Nat} {B : Nat} {F : List Nat} {S : Nat → Nat → Prop} {bl : List Nat} {vals : List (V × Value)} {H : Heap} {w : World}
/-! ### Rows of cells of an object -/
theorem lay_cons {cs xs : List V} {o : Nat} {v : V} (h : o < cs.length) : lay (cs.set o v) (o + 1) xs = lay cs o (v :: xs) := by
  unfold lay
  have h1 : (cs.set o v).take (o + 1) = cs.take o ++ [v] := by
    rw [List.take_set, List.take_succ_eq_append_getElem h, List.set_append_right _ _ (by simp; omega)]
    simp only [List.length_take]
    rw [show o - min o cs.length = 0 by omega]
    rfl
  rw [h1, List.drop_set_of_lt (by omega)]
  simp [List.append_assoc, show o + 1 + xs.length = o + (xs.length + 1) by omega]
theorem setObjs {id b : Nat} (hb : bl[id]? = some b) : ∀ (xs : List V) (ds : List Value) (o : Nat) (H : Heap) (w : World) (cs : List V), St lim B (F ++ blks (tipsL xs ds)) S bl vals H w → (∀ p ∈ vals, p.1.noVia = true) →
    H[id]? = some cs → o + xs.length ≤ cs.length → RepL S bl w xs ds → (∀ v ∈ xs, v.single = true) → (∀ t ∈ tipsL xs ds, TipOK S w t) → mayW lim id (V.rbL · xs) = true →
    St lim B F S bl vals (H.set id (lay cs o xs)) (setCells w b o ds) ∧ Ext lim B F S bl H w S bl (H.set id (lay cs o xs)) (setCells w b o ds)
  | [], ds, o, H, w, cs, h, hv, hH, hle, hr, hs, ht, hl => by
    have : ds = [] := by simpa [RepL] using hr
    subst this
    have e : H.set id (lay cs o []) = H := by
      have : lay cs o [] = cs := by simp [lay]
      rw [this]
      refine List.ext_getElem? fun j => ?_
      rw [List.getElem?_set]
      by_cases hj : id = j
      · subst hj; rw [if_pos rfl, if_pos (List.getElem?_eq_some_iff.1 hH).1, hH]
      · rw [if_neg hj]
    rw [e]
    exact ⟨by simpa [tipsL, setCells] using h, by simpa [setCells] using Ext.refl _ _ _ _ _ _ _⟩
  | v :: xs, [], o, H, w, cs, h, hv, hH, hle, hr, hs, ht, hl => by simp [RepL] at hr
  | v :: xs, c :: ds, o, H, w, cs, h, hv, hH, hle, hr, hs, ht, hl => by
    simp only [RepL] at hr
    obtain ⟨_, _, e, h1, h2⟩ := hr
    simp only [List.cons.injEq] at e
    obtain ⟨rfl, rfl⟩ := e
    simp only [List.length_cons] at hle
    have h0 : St lim B ((F ++ blks (tipsL xs ds)) ++ blks (tips1 v c)) S bl vals H w := h.unframe fun x => by simp only [tipsL, blks, List.map_append, List.count_append]; omega
    have ho : o < cs.length := by omega
    have hg : (hget H id o).isSome = true := by simp [hget, hH, List.getElem?_eq_getElem ho]
    have hset' : hset H id o v = H.set id (cs.set o v) := by simp [hset, hH]
    obtain ⟨g1, g2⟩ := h0.setObj (o := o) hv hg hb (hs v (List.mem_cons_self ..)) h1 (fun t k => ht t (List.mem_append_left _ k)) (by
      cases lim with
      | none => rfl
      | some l =>
        exact hl)
    rw [hset'] at g1 g2
    have hid : id < H.length := (List.getElem?_eq_some_iff.1 hH).1
    obtain ⟨k1, k2⟩ := setObjs hb xs ds (o + 1) (H.set id (cs.set o v)) _ (cs.set o v) g1 hv (by rw [List.getElem?_set_self hid]) (by simp; omega) (RepL.mono g2.keeps (fun _ _ e => e) xs ds (fun u hu => V.noVia_of_single (hs u (List.mem_cons_of_mem _ hu))) h2) (fun u hu => hs u (List.mem_cons_of_mem _ hu))
      (fun t k => (ht t (List.mem_append_right _ k)).mono (g2.frame t.blk (List.mem_append_right _ (List.mem_map.2 ⟨t, k, rfl⟩))).1 fun _ x => x) (by
      cases lim with
      | none => rfl
      | some l =>
        exact hl)
    rw [lay_cons ho, List.set_set] at k1 k2
    exact ⟨k1, (g2.less fun x hx => List.mem_append_left _ hx).trans k2⟩
end

theorem tipsL_take (k : Nat) (a : List V) (x : List Value) (h : a.length = x.length) : ∃ r, tipsL a x = tipsL (a.take k) (x.take k) ++ r := by
  refine ⟨tipsL (a.drop k) (x.drop k), ?_⟩
  rw [← tipsL_append (by simp [h]), List.take_append_drop, List.take_append_drop]

namespace St
variable {lim : Option Nat} {B : Nat} {F : List Nat} {S : Nat → Nat → Prop} {bl : List Nat} {vals : List (V × Value)} {H : Heap} {w : World}

/-- **An object goes; its cells' leaves to append are left over.** -/
theorem kill {id b : Nat} {cs : List V} {ds : List Value} (h : St lim B F S bl vals H w) (hH : H[id]? = some cs) (hb : bl[id]? = some b) (hd : ∀ (j : Nat) c, ds[j]? = some c → w.cell? ⟨b, 0 + j, none⟩ = some c) (hl : cs.length = ds.length)
    (hm : mayW lim id (fun _ => true) = true) :
    St lim B (F ++ blks (tipsL cs ds)) S bl vals (H.set id []) w ∧ Ext lim B F S bl H w S bl (H.set id []) w ∧ ∀ t ∈ tipsL cs ds, TipOK S w t := by
  obtain ⟨HA, HC, rfl, hHA⟩ := split_at hH
  obtain ⟨bA, bC, rfl, hbA⟩ := split_at hb
  have hlen := h.len
  have hAl : HA.length = bA.length := by omega
  have hct := ctips_eq cs ds 0 hd hl
  have e0 : htips w (HA ++ cs :: HC) (bA ++ b :: bC) = htips w HA bA ++ (tipsL cs ds ++ htips w HC bC) := by
    rw [htips_append _ _ _ _ _ hAl]; simp only [htips, hct]
  have e1 : htips w ((HA ++ cs :: HC).set id []) (bA ++ b :: bC) = htips w HA bA ++ htips w HC bC := by
    rw [← hHA, set_split, htips_append _ _ _ _ _ hAl]; simp only [htips, ctips, List.nil_append]
  have hti : ∀ t ∈ tipsL cs ds, t ∈ htips w (HA ++ cs :: HC) (bA ++ b :: bC) := fun t ht => by
    rw [e0]; exact List.mem_append_right _ (List.mem_append_left _ ht)
  refine ⟨⟨h.rep, by simpa using h.len, ?_, ?_, ?_, h.stab, ?_, ?_, ?_⟩, ⟨Keeps.refl _ _, fun _ _ => ⟨rfl, fun _ x => x⟩, Below.refl _ _, fun _ _ e => e, by simp, ?_⟩, fun t ht => (h.tip t (.inr (hti t ht))).1⟩
  · intro i cs' b' hi hbi
    by_cases hii : i = id
    · subst hii
      rw [List.getElem?_set_self (by simp; omega)] at hi
      cases hi
      obtain ⟨⟨carr, e, lo, hi, q1, q2, q3⟩, _⟩ := h.obj i _ b' hH hbi
      exact ⟨⟨carr, e, lo, hi, q1, by simp, q3⟩, fun j v hj => by simp at hj⟩
    · rw [List.getElem?_set_ne (Ne.symm hii)] at hi
      exact h.obj i cs' b' hi hbi
  · intro x
    have := h.nodup x
    rw [e0] at this
    rw [e1]
    simp only [blks, List.map_append, List.count_append] at this ⊢
    omega
  · intro t ht
    refine h.tip t (ht.imp (fun q => q) fun y => ?_)
    rw [e1] at y; rw [e0]
    rcases List.mem_append.1 y with y | y
    · exact List.mem_append_left _ y
    · exact List.mem_append_right _ (List.mem_append_right _ y)
  · intro x hx
    rcases hx with hx | hx
    · rcases List.mem_append.1 hx with hx | hx
      · exact h.base x (.inl hx)
      · obtain ⟨t, ht, rfl⟩ := List.mem_map.1 hx
        exact ⟨(h.tip t (.inr (hti t ht))).2, (h.tip t (.inr (hti t ht))).1.lt⟩
    · exact h.base x (.inr hx)
  · intro l hl'
    obtain ⟨r1, r2, r3⟩ := h.refs l hl'
    refine ⟨by simpa using r1, fun i cs' hil hi => ?_, r3⟩
    subst hl'
    simp only [mayW, decide_eq_true_eq] at hm
    rw [List.getElem?_set_ne (by omega)] at hi
    exact r2 i cs' hil hi
  · intro i j b' cs' ds' hij hbi hbj hi hj
    have g : ∀ (i : Nat) cs', ((HA ++ cs :: HC).set id [])[i]? = some cs' → cs' = [] ∨ (HA ++ cs :: HC)[i]? = some cs' := by
      intro i cs' hi
      by_cases hii : i = id
      · subst hii
        rw [List.getElem?_set_self (by simp; omega)] at hi
        cases hi; exact .inl rfl
      · rw [List.getElem?_set_ne (Ne.symm hii)] at hi; exact .inr hi
    rcases g i cs' hi with k | k
    · exact .inl k
    · rcases g j ds' hj with k' | k'
      · exact .inr k'
      · exact h.sep i j b' cs' ds' hij hbi hbj k k'
  · rintro l rfl
    simp only [mayW, decide_eq_true_eq] at hm
    exact ⟨fun _ _ _ _ => rfl, by rw [List.take_set_of_le hm]⟩

/-- **A block whose objects have gone becomes an object.** -/
theorem reuse {id b : Nat} {cs : List V} {ds : List Value} {w' : World} {carr carr' : Array Value} {e : TypeId} {lo hi : Nat} (h : St lim B (F ++ blks (tipsL cs ds)) S bl vals H w) (hv : ∀ p ∈ vals, p.1.noVia = true)
    (hb : bl[id]? = some b) (hdead : ∀ (i : Nat) cs', bl[i]? = some b → H[i]? = some cs' → cs' = []) (hm : mayW lim id (fun _ => true) = true)
    (size : w'.heap.size = w.heap.size) (others : ∀ b', b' ≠ b → w'.heap[b']? = w.heap[b']?) (hos : w'.os = w.os ∧ w'.tape = w.tape ∧ w'.output = w.output)
    (hwb : w.heap[b]? = some (.cells carr e (lo, hi))) (hwb' : w'.heap[b]? = some (.cells carr' e (lo, hi))) (hsz : carr'.size = carr.size) (hfz : ∀ o, o < carr.size → ¬ (lo ≤ o ∧ o < hi))
    (hc : ∀ (j : Nat) c, ds[j]? = some c → carr'[j]? = some c)
    (hr : RepL S bl w cs ds) (hs : ∀ v ∈ cs, v.single = true) (ht : ∀ t ∈ tipsL cs ds, TipOK S w t) :
    St lim B F S (bl ++ [b]) vals (H ++ [cs]) w' ∧ Ext lim B F S bl H w S (bl ++ [b]) (H ++ [cs]) w' := by
  have hbm : b ∈ bl := List.mem_of_getElem? hb
  have hlen : cs.length = ds.length := ((RepL_iff cs ds).1 hr).1
  have hSb : ∀ o', ¬ S b o' := fun o' x => (h.stab b o' x).1 hbm
  have k : Keeps S w S w' := ⟨fun _ _ x => x, fun b' o' x => cell_same (others b' (by rintro rfl; exact hSb o' x)) o', fun b' n x => by
    by_cases e' : b' = b
    · subst e'
      obtain ⟨c0, t, f, x1, x2⟩ := x
      rw [hwb] at x1
      cases x1
      exact ⟨_, _, _, hwb', by omega⟩
    · exact x.same (others b' e')⟩
  have hpre : ∀ i b' : Nat, bl[i]? = some b' → (bl ++ [b])[i]? = some b' := fun i b' hi => by
    rw [List.getElem?_append_left (List.getElem?_eq_some_iff.1 hi).1]; exact hi
  have hcell : ∀ (j : Nat) c, ds[j]? = some c → w'.cell? ⟨b, 0 + j, none⟩ = some c := fun j c hj => by
    rw [cell_of hwb', Nat.zero_add]; exact hc j c hj
  have hct := ctips_eq (w := w') cs ds 0 hcell hlen
  have hlive : ∀ (i b' : Nat) cs', H[i]? = some cs' → bl[i]? = some b' → cs' = [] ∨ w'.heap[b']? = w.heap[b']? := fun i b' cs' hi hbi => by
    by_cases e' : b' = b
    · subst e'; exact .inl (hdead i cs' hbi hi)
    · exact .inr (others b' e')
  have hht : htips w' (H ++ [cs]) (bl ++ [b]) = htips w H bl ++ tipsL cs ds := by
    rw [htips_append _ _ _ _ _ h.len, htips_live H bl fun i cs' b' hi hbi => hlive i b' cs' hi hbi]
    simp only [htips, hct, List.append_nil]
  have hF : ∀ x, (F ++ blks (tipsL cs ds)).count x + ind bl x ≤ 1 := fun x => by have := h.nodup x; omega
  have hneF : ∀ x ∈ F ++ blks (tipsL cs ds), x ≠ b := by
    rintro x hx rfl
    have h1 := hF x
    have h2 := mem_count hx
    have h3 := ind_mem hbm
    omega
  have hne : ∀ t, (t ∈ vtips vals ∨ t ∈ htips w H bl) → t.blk ≠ b := by
    intro t ht' e'
    have := h.nodup b
    have hbc : ind bl b = 1 := ind_mem hbm
    rcases ht' with ht' | ht'
    · have : 1 ≤ (blks (vtips vals)).count b := mem_count (List.mem_map.2 ⟨t, ht', e'⟩); omega
    · have : 1 ≤ (blks (htips w H bl)).count b := mem_count (List.mem_map.2 ⟨t, ht', e'⟩); omega
  have hind : ∀ x, ind (bl ++ [b]) x = ind bl x := fun x => by
    by_cases hx : x ∈ bl
    · rw [ind_mem hx, ind_mem (List.mem_append_left _ hx)]
    · rw [ind_zero hx, ind_zero (fun y => ?_)]
      rcases List.mem_append.1 y with y | y
      · exact hx y
      · simp at y; subst y; exact hx hbm
  refine ⟨⟨fun p hp => Rep.mono k hpre _ _ (hv p hp) (h.rep p hp), by simp [h.len], ?_, ?_, ?_, ?_, ?_, ?_, ?_⟩,
    ⟨k, fun x hx => ⟨others x (hneF x (List.mem_append_left _ hx)), fun _ y => y⟩, ⟨hos.1, hos.2.1, hos.2.2, Nat.le_of_eq size.symm, fun b' hb' => others b' (by have := (h.base b (.inr hbm)).1; omega)⟩, hpre, by simp, fun l hl => ⟨fun i b' hi hb' => others b' ?_, by rw [List.take_append_of_le_length (h.refs l hl).1]⟩⟩⟩
  · intro i cs' b' hii hbi
    by_cases hil : i < H.length
    · rw [List.getElem?_append_left hil] at hii
      rw [List.getElem?_append_left (by rw [← h.len]; exact hil)] at hbi
      rcases hlive i b' cs' hii hbi with rfl | h1
      · by_cases e' : b' = b
        · subst e'
          exact ⟨⟨carr', e, lo, hi, hwb', by simp, by rw [hsz]; exact hfz⟩, fun j v hj => by simp at hj⟩
        · exact (h.obj i ([] : List V) b' hii hbi).mono k hpre (others b' e')
      · exact (h.obj i cs' b' hii hbi).mono k hpre h1
    · have hil' : i = H.length := by
        have := (List.getElem?_eq_some_iff.1 hii).1
        simp at this; omega
      subst hil'
      simp only [List.getElem?_append_right (Nat.le_refl _), Nat.sub_self, List.getElem?_cons_zero, Option.some.injEq] at hii
      rw [h.len, List.getElem?_append_right (Nat.le_refl _)] at hbi
      simp only [Nat.sub_self, List.getElem?_cons_zero, Option.some.injEq] at hbi
      subst hii; subst hbi
      refine ⟨⟨carr', e, lo, _, hwb', ?_, by rw [hsz]; exact hfz⟩, fun j v hj => ?_⟩
      · rw [hlen]
        by_cases h0 : ds.length = 0
        · omega
        · have hd : ds[ds.length - 1]? = some ds[ds.length - 1] := List.getElem?_eq_getElem (by omega)
          have := (Array.getElem?_eq_some_iff.1 (hc _ _ hd)).1
          omega
      · refine ⟨hs v (List.mem_of_getElem? hj), ?_⟩
        obtain ⟨hj1, _⟩ := List.getElem?_eq_some_iff.1 hj
        obtain ⟨c, hcj⟩ : ∃ c, ds[j]? = some c := ⟨_, List.getElem?_eq_getElem (by omega)⟩
        refine ⟨c, ?_, ?_⟩
        · have := hcell j c hcj; rwa [Nat.zero_add] at this
        · exact Rep.mono k hpre v c (V.noVia_of_single (hs v (List.mem_of_getElem? hj))) (((RepL_iff cs ds).1 hr).2 j v c hj hcj)
  · intro x
    have := h.nodup x
    rw [hht, hind]
    simp only [blks, List.map_append, List.count_append] at this ⊢
    omega
  · intro t ht'
    rw [hht] at ht'
    have hold : (t ∈ vtips vals ∨ t ∈ htips w H bl) ∨ t ∈ tipsL cs ds := by
      rcases ht' with ht' | ht'
      · exact .inl (.inl ht')
      · rcases List.mem_append.1 ht' with ht' | ht'
        · exact .inl (.inr ht')
        · exact .inr ht'
    rcases hold with hold | hold
    · exact ⟨(h.tip t hold).1.mono (others _ (hne t hold)) fun _ x => x, (h.tip t hold).2⟩
    · have hbk : t.blk ∈ F ++ blks (tipsL cs ds) := List.mem_append_right _ (List.mem_map.2 ⟨t, hold, rfl⟩)
      exact ⟨(ht t hold).mono (others _ (hneF _ hbk)) fun _ x => x, (h.base t.blk (.inl hbk)).1⟩
  · intro b' o' x
    obtain ⟨a1, a2⟩ := h.stab b' o' x
    refine ⟨fun y => ?_, by rw [k.cell b' o' x]; exact a2⟩
    rcases List.mem_append.1 y with y | y
    · exact a1 y
    · simp at y; subst y; exact a1 hbm
  · intro b' hb'
    have : b' ∈ F ++ blks (tipsL cs ds) ∨ b' ∈ bl := by
      rcases hb' with hb' | hb'
      · exact .inl (List.mem_append_left _ hb')
      · rcases List.mem_append.1 hb' with hb' | hb'
        · exact .inr hb'
        · simp at hb'; subst hb'; exact .inr hbm
    have := h.base b' this
    exact ⟨this.1, by rw [size]; exact this.2⟩
  · intro l hl
    obtain ⟨a1, a2, a3⟩ := h.refs l hl
    have hlid : l ≤ id := by subst hl; simpa only [mayW, decide_eq_true_eq] using hm
    refine ⟨by simp; omega, fun i cs' hil hi => ?_, fun i j b' hi hj hbi hbj => ?_⟩
    · rw [List.getElem?_append_left (by omega)] at hi
      exact a2 i cs' hil hi
    · have hlen' := h.len
      rw [List.getElem?_append_left (by omega)] at hbi
      by_cases hjl : j < bl.length
      · rw [List.getElem?_append_left hjl] at hbj; exact a3 i j b' hi hj hbi hbj
      · have : j = bl.length := by have := (List.getElem?_eq_some_iff.1 hbj).1; simp at this; omega
        subst this
        simp at hbj
        subst hbj
        exact a3 i id b hi hlid hbi hb
  · have key : ∀ (i j b' : Nat) cs' ds', i < j → (bl ++ [b])[i]? = some b' → (bl ++ [b])[j]? = some b' → (H ++ [cs])[i]? = some cs' → (H ++ [cs])[j]? = some ds' → cs' = [] ∨ ds' = [] := by
      intro i j b' cs' ds' hij hbi hbj hi hj
      have hlen' := h.len
      have hjl : j < bl.length + 1 := by have := (List.getElem?_eq_some_iff.1 hbj).1; simpa using this
      rw [List.getElem?_append_left (by omega)] at hbi hi
      by_cases hj' : j < bl.length
      · rw [List.getElem?_append_left hj'] at hbj
        rw [List.getElem?_append_left (by omega)] at hj
        exact h.sep i j b' cs' ds' (by omega) hbi hbj hi hj
      · have : j = bl.length := by omega
        subst this
        simp at hbj
        subst hbj
        exact .inl (hdead i cs' hbi hi)
    intro i j b' cs' ds' hij hbi hbj hi hj
    rcases Nat.lt_or_gt_of_ne hij with q | q
    · exact key i j b' cs' ds' q hbi hbj hi hj
    · exact (key j i b' ds' cs' q hbj hbi hj hi).symm
  · rintro rfl
    subst hl
    exact (h.refs l rfl).2.2 i id b' hi (by simpa only [mayW, decide_eq_true_eq] using hm) hb' hb
end St

section
variable {P : Program} {lim : Option Nat} {B : Nat} {F : List Nat} {S : Nat → Nat → Prop} {bl : List Nat} {H : Heap} {w : World}
theorem hcells_all {H : Heap} {id : Nat} {cs : List V} (h : H[id]? = some cs) : hcells H id 0 cs.length = some cs := by
  simp [hcells, h]
theorem blks_take {cs us : List V} {ds es : List Value} {k : Nat} (hl : cs.length = ds.length) (hu : us.length = es.length) :
    (∀ x, (blks (tipsL (cs.take k ++ us.map V.dis1) (ds.take k ++ es))).count x ≤ (blks (tipsL cs ds)).count x) ∧ ∀ t ∈ tipsL (cs.take k ++ us.map V.dis1) (ds.take k ++ es), t ∈ tipsL cs ds := by
  obtain ⟨r, hr⟩ := tipsL_take k cs ds hl
  rw [tipsL_append (by simp [hl]), tipsL_dis1, List.append_nil, hr]
  exact ⟨fun x => by simp only [blks, List.map_append, List.count_append]; omega, fun t ht => List.mem_append_left _ ht⟩
theorem run_apg {t u e sz bytes : Nat} {d : TypeDesc} {ats : Array TypeId} {ty : TypeId} {s x r : V} {H' : Heap} {a b : Value} (h : St lim B F S bl [(s, a), (x, b)] H w) (hB : B ≤ w.heap.size)
    (h0 : ats[0]? = some t) (h1 : ats[1]? = some u) (ht : P.underlying t = some (.slice e)) (hu : P.underlying u = some d) (hd : ∀ k, d ≠ .int k) (hsz : szIs P e sz = true) (hby : bytesIs P e bytes = true) (hpos : 0 < sz) (hbpos : 0 < bytes)
    (hzero2 : ∀ w', ∃ z, (zeroValue e).run P w' = .ok z w' ∧ z.cells.size = sz) (hr : aApg lim sz bytes H [s, x] = some (r, H')) :
    ∃ c w' S' bl', (Builtin.append_ ats ty #[a, b]).run P w = .ok c w' ∧ St lim B F S' bl' [(r, c)] H' w' ∧ Ext lim B F S bl H w S' bl' H' w' := by
  have hs : Rep S bl w s a := h.rep _ (List.mem_cons_self ..)
  have hx : Rep S bl w x b := h.rep (x, b) (by simp)
  have hd' : (match d with | .int _ => true | _ => false) = false := by cases d <;> first | rfl | exact absurd rfl (hd _)
  obtain ⟨i, hinfo, hi2⟩ := bytes_info hby
  cases s <;> try (simp [aApg] at hr; done)
  · -- an object
    rename_i z id off n k
    simp only [aApg] at hr
    split at hr
    · rename_i hc
      obtain ⟨rfl, hm⟩ := hc
      obtain ⟨cs, hH, hr⟩ := Option.bind_eq_some_iff.1 hr
      obtain ⟨⟨m, us⟩, htl, hr⟩ := Option.bind_eq_some_iff.1 hr
      simp only at hr
      obtain ⟨hum, husng, es, e1, e2, e3⟩ := run_tail (P := P) h hx htl
      have hue := ((RepL_iff us es).1 e1).1
      have hs0 := hs
      simp only [Rep] at hs
      obtain ⟨bb, cap, hb, ⟨hnk, hkc⟩, rfl, hfit⟩ := hs
      obtain ⟨carr, el, lo, hi, q1, q2, q3⟩ := (h.obj id cs bb hH hb).ex
      have harr0 : (#[Value.slice (some ⟨bb, off, none⟩) n cap, b] : Array Value)[0]? = some (.slice (some ⟨bb, off, none⟩) n cap) := rfl
      have harr1 : (#[Value.slice (some ⟨bb, off, none⟩) n cap, b] : Array Value)[1]? = some b := rfl
      split at hr
      · -- there is room
        rename_i hroomk
        have hcap : n + m ≤ cap := by omega
        split at hr
        · rename_i hlen
          cases hr
          rw [Nat.add_mul] at hlen
          have hsg : ∀ v ∈ us.map V.dis1, v.single = true := fun v hv => by
            obtain ⟨u', hu', rfl⟩ := List.mem_map.1 hv; exact V.dis1_single (husng u' hu')
          obtain ⟨g1, g2⟩ := setObjs (F := F) (vals := []) hb (us.map V.dis1) es (off + n * z) H w cs (by rw [tipsL_dis1]; simpa [blks] using h.nil) (fun p hp => by cases hp) hH (by simp; omega) e1.dis1 hsg (fun t ht => by rw [tipsL_dis1] at ht; cases ht) (by cases lim <;> exact hm)
          refine ⟨.slice (some ⟨bb, off, none⟩) (n + m) cap, _, _, _, ?_, g1.add0 ?_ rfl, g2⟩
          · have hstore : (storeCells ((⟨bb, off, none⟩ : Addr).add (n * z)) es 0).run P w = .ok () (setCells w bb (off + n * z) es) := by
              rw [add_none]
              have := run_storeCells P (b := bb) (o := off + n * z) es 0 w carr el lo hi q1 (by omega) (fun j hj hj' => q3 j hj') (e1.oneCell husng)
              rwa [Nat.add_zero] at this
            simp only [Builtin.append_, h0, h1, harr0, harr1, Sem.run_bind, run_und ht, Result.andThen_ok, run_size hsz]
            simp only [Sem.run_bind, run_und hu, Result.andThen_ok, Sem.run_pure]
            simp only [hd', Bool.false_eq_true, if_false, e2, Result.andThen_ok, hcap, if_true, Bool.not_false, e3, Sem.run_bind, hstore, Sem.run_pure]
          · simp only [Rep]
            exact ⟨bb, cap, hb, ⟨hroomk, hkc⟩, rfl, g2.keeps.size _ _ hfit⟩
        · cases hr
      · rename_i hroomk
        split at hr
        · rename_i hcs
          obtain ⟨hoff, hne, hlen, hroom⟩ := hcs
          simp only [Option.some.injEq, Prod.mk.injEq] at hr
          obtain ⟨hr1, hr2⟩ := hr
          subst hr1; subst hr2; subst hoff
          obtain ⟨c0, t0, f0, x1, x2⟩ := hfit
          rw [q1] at x1
          cases x1
          rw [Nat.zero_add] at x2
          have hneed : n + m ≤ 140737488355328 := by
            have h1 : (n + m) * 1 ≤ (n + m) * bytes := Nat.mul_le_mul_left _ hbpos
            unfold room at hroom; omega
          have hidl := (List.getElem?_eq_some_iff.1 hH).1
          have hdead : ∀ (i : Nat) cs', bl[i]? = some bb → (H.set id [])[i]? = some cs' → cs' = [] := fun i cs' hbi hi => by
            by_cases hii : i = id
            · subst hii
              rw [List.getElem?_set_self hidl] at hi
              cases hi; rfl
            · rw [List.getElem?_set_ne (Ne.symm hii)] at hi
              exact (h.sep i id bb cs' cs hii hbi hb hi hH).resolve_right hne
          by_cases hcap : n + m ≤ cap
          · -- in place
            obtain ⟨hl, ds, d1, d2, d3⟩ := h.cells (hcells_all hH) hb
            have hdl := ((RepL_iff cs ds).1 d1).1
            obtain ⟨k1, k2, k3⟩ := (h.nil).kill hH hb d2 hdl hm
            obtain ⟨b1, b2⟩ := blks_take (k := n * z) hdl hue
            obtain ⟨p1, p2, p3, p4, p5, carr', p6, p7, p8⟩ := setCells_spec es w bb (n * z) carr el (lo, hi) q1
            have hmul : (n + m) * z ≤ cap * z := Nat.mul_le_mul_right z hcap
            rw [Nat.add_mul] at hmul
            have htk : (cs.take (n * z)).length = n * z := by simp; omega
            have htd : (ds.take (n * z)).length = n * z := by simp; omega
            have hcont : ∀ (j : Nat) c, (ds.take (n * z) ++ es)[j]? = some c → carr'[j]? = some c := by
              intro j c hj
              rw [p8 j]
              by_cases hj1 : j < n * z
              · rw [if_neg (by omega)]
                rw [List.getElem?_append_left (by omega), List.getElem?_take, if_pos hj1] at hj
                have := d2 j c hj
                rwa [Nat.zero_add, cell_of q1] at this
              · rw [List.getElem?_append_right (by omega), htd] at hj
                have := (List.getElem?_eq_some_iff.1 hj).1
                rw [if_pos (by omega)]; exact hj
            have hRL : RepL S bl w (cs.take (n * z) ++ us.map V.dis1) (ds.take (n * z) ++ es) := by
              refine RepL_append ?_ e1.dis1
              refine (RepL_iff _ _).2 ⟨by rw [htk, htd], fun j v c hv hc => ?_⟩
              rw [List.getElem?_take] at hv hc
              split at hv
              · rename_i hj; rw [if_pos hj] at hc; exact ((RepL_iff cs ds).1 d1).2 j v c hv hc
              · cases hv
            have hsg : ∀ v ∈ cs.take (n * z) ++ us.map V.dis1, v.single = true := fun v hv => by
              rcases List.mem_append.1 hv with hv | hv
              · exact d3 v (List.mem_of_mem_take hv)
              · obtain ⟨u', hu', rfl⟩ := List.mem_map.1 hv; exact V.dis1_single (husng u' hu')
            obtain ⟨g1, g2⟩ := St.reuse (h := k1.unframe (F := F ++ blks (tipsL (cs.take (n * z) ++ us.map V.dis1) (ds.take (n * z) ++ es))) fun x => by
                have := b1 x; simp only [List.count_append]; omega) (fun p hp => by cases hp) hb hdead hm p1 p2 ⟨p3, p4, p5⟩ q1 p6 p7 q3 hcont hRL hsg fun t ht => k3 t (b2 t ht)
            refine ⟨.slice (some ⟨bb, 0, none⟩) (n + m) cap, _, _, _, ?_, g1.add0 ?_ rfl, k2.trans g2⟩
            · have hstore : (storeCells ((⟨bb, 0, none⟩ : Addr).add (n * z)) es 0).run P w = .ok () (setCells w bb (n * z) es) := by
                rw [add_none, Nat.zero_add]
                have := run_storeCells P (b := bb) (o := n * z) es 0 w carr el lo hi q1 (by omega) (fun j hj hj' => q3 j hj') (e1.oneCell husng)
                rwa [Nat.add_zero] at this
              simp only [Builtin.append_, h0, h1, harr0, harr1, Sem.run_bind, run_und ht, Result.andThen_ok, run_size hsz]
              simp only [Sem.run_bind, run_und hu, Result.andThen_ok, Sem.run_pure]
              simp only [hd', Bool.false_eq_true, if_false, e2, Result.andThen_ok, hcap, if_true, Bool.not_false, e3, Sem.run_bind, hstore, Sem.run_pure]
            · simp only [Rep]
              exact ⟨bb, cap, by rw [h.len]; simp, ⟨Nat.le_refl _, hcap⟩, rfl, _, _, _, p6, by omega⟩
          · -- a new block
            obtain ⟨h', hx0⟩ := h.drew
            obtain ⟨_, _, es', f1, f2, f3⟩ := run_tail (P := P) h' (show Rep S bl _ x b from h'.rep (x, b) (by simp)) htl
            have hue' := ((RepL_iff us es').1 f1).1
            obtain ⟨zz, hz, hzsz⟩ := hzero2 { w with drawn := w.drawn + 1 }
            obtain ⟨hl, ds, d1, d2, d3⟩ := h'.cells (hcells_all hH) hb
            have hdl := ((RepL_iff cs ds).1 d1).1
            obtain ⟨k1, k2, k3⟩ := (h'.nil).kill hH hb d2 hdl hm
            obtain ⟨b1, b2⟩ := blks_take (k := n * z) hdl hue'
            have htk : (cs.take (n * z)).length = n * z := by simp; omega
            have htd : (ds.take (n * z)).length = n * z := by simp; omega
            have hold : (Builtin.firstCells z n (.slice (some ⟨bb, 0, none⟩) n cap)).run P { w with drawn := w.drawn + 1 } = .ok (ds.take (n * z)).toArray { w with drawn := w.drawn + 1 } := by
              simp only [Builtin.firstCells]
              refine run_loadCells P htd fun j c hj => ?_
              rw [List.getElem?_take] at hj
              split at hj
              · exact d2 j c hj
              · cases hj
            have hRL : RepL S bl { w with drawn := w.drawn + 1 } (cs.take (n * z)) (ds.take (n * z)) := by
              refine (RepL_iff _ _).2 ⟨by rw [htk, htd], fun j v c hv hc => ?_⟩
              rw [List.getElem?_take] at hv hc
              split at hv
              · rename_i hj; rw [if_pos hj] at hc; exact ((RepL_iff cs ds).1 d1).2 j v c hv hc
              · cases hv
            have hsg : ∀ v ∈ cs.take (n * z) ++ us.map V.dis1, v.single = true := fun v hv => by
              rcases List.mem_append.1 hv with hv | hv
              · exact d3 v (List.mem_of_mem_take hv)
              · obtain ⟨u', hu', rfl⟩ := List.mem_map.1 hv; exact V.dis1_single (husng u' hu')
            generalize hq : (Question.appendCap (n + m) cap e).cut (w.tape w.drawn (Question.appendCap (n + m) cap e)) = newCap
            have hnc : n + m ≤ newCap := by rw [← hq]; simp only [Question.cut]; omega
            generalize hrest : (Builtin.zeroCells zz.cells (newCap - (n + m))) = rest
            have hrow : ((ds.take (n * z)).toArray ++ es'.toArray ++ rest).toList = (ds.take (n * z) ++ es') ++ rest.toList := by simp
            obtain ⟨g1, g2⟩ := St.newObj (h := k1.unframe (F := F ++ blks (tipsL (cs.take (n * z) ++ us.map V.dis1) (ds.take (n * z) ++ es'))) fun x => by
                have := b1 x; simp only [List.count_append]; omega) hB (RepL_append hRL f1.dis1) hsg (fun t ht => k3 t (b2 t ht)) (e := e) hrow
            refine ⟨.slice (some ⟨w.heap.size, 0, none⟩) (n + m) newCap, _, _, _, ?_, g1.add0 ?_ rfl, (hx0.trans k2).trans g2⟩
            · simp only [Builtin.append_, h0, h1, harr0, harr1, Sem.run_bind, run_und ht, Result.andThen_ok, run_size hsz]
              simp only [Sem.run_bind, run_und hu, Result.andThen_ok, Sem.run_pure]
              have hns : ¬ (Builtin.nextslicecap (n + m) cap * i.bytes > 2 ^ 48) := by
                have h1 := nextslicecap_le (need := n + m) (cap := cap) (by omega)
                have h2 : Builtin.nextslicecap (n + m) cap * bytes ≤ 2 * (n + m) * bytes := Nat.mul_le_mul_right _ h1
                rw [Nat.mul_assoc] at h2
                rw [hi2]
                unfold room at hroom
                omega
              have hb0 : ¬ (i.bytes = 0) := by omega
              simp only [hd', Bool.false_eq_true, if_false, e2, Result.andThen_ok, hcap, Bool.not_false, if_true, Sem.run_bind, run_info hinfo, hb0, or_self, and_false, hns, run_choose, Question.forced, hq, run_askRoom, hold, f3, hz, hrest, newRow, run_newObj, Sem.run_pure]
            · simp only [Rep]
              refine ⟨w.heap.size, newCap, ?_, ⟨Nat.le_refl _, hnc⟩, rfl, _, _, _, push_new, ?_⟩
              · have := k1.len; simp only [List.length_set] at this; rw [this]; simp
              · rw [Nat.zero_add]; exact hrow2 hz hzsz hrest hRL f1 htk hum hnc
        · cases hr
    · cases hr
  · -- nil
    simp only [aApg] at hr
    obtain ⟨⟨m, us⟩, htl, hr⟩ := Option.bind_eq_some_iff.1 hr
    simp only at hr
    split at hr
    · rename_i hroom
      obtain ⟨hum, husng, es, e1, e2, e3⟩ := run_tail (P := P) h hx htl
      have hue := ((RepL_iff us es).1 e1).1
      have hs0 := hs
      simp only [Rep] at hs
      subst hs
      have harr0 : (#[Value.slice none 0 0, b] : Array Value)[0]? = some (.slice none 0 0) := rfl
      have harr1 : (#[Value.slice none 0 0, b] : Array Value)[1]? = some b := rfl
      split at hr
      · rename_i hm0
        cases hr
        subst hm0
        obtain rfl : us = [] := List.length_eq_zero_iff.1 (by rw [hum]; simp)
        obtain rfl : es = [] := by simpa [RepL] using e1
        refine ⟨.slice none 0 0, w, S, bl, ?_, h.nil.add0 hs0 rfl, Ext.refl _ _ _ _ _ _ _⟩
        simp only [Builtin.append_, h0, h1, harr0, harr1, Sem.run_bind, run_und ht, Result.andThen_ok, run_size hsz]
        simp only [Sem.run_bind, run_und hu, Result.andThen_ok, Sem.run_pure]
        simp only [hd', Bool.false_eq_true, if_false, e2, Result.andThen_ok, Nat.zero_add, Nat.le_refl, if_true, Bool.not_false, e3, Sem.run_bind, Sem.run_pure]
      · rename_i hm0
        cases hr
        have hneed : m ≤ 140737488355328 := by
          have h1 : m * 1 ≤ m * bytes := Nat.mul_le_mul_left _ hbpos
          unfold room at hroom; omega
        obtain ⟨h', hx0⟩ := h.drew
        obtain ⟨_, _, es', f1, f2, f3⟩ := run_tail (P := P) h' (show Rep S bl _ x b from h'.rep (x, b) (by simp)) htl
        obtain ⟨zz, hz, hzsz⟩ := hzero2 { w with drawn := w.drawn + 1 }
        have hold : (Builtin.firstCells sz 0 (.slice none 0 0)).run P { w with drawn := w.drawn + 1 } = .ok ([] : List Value).toArray { w with drawn := w.drawn + 1 } := rfl
        have hcap : ¬ (0 + m ≤ 0) := by omega
        generalize hq : (Question.appendCap (0 + m) 0 e).cut (w.tape w.drawn (Question.appendCap (0 + m) 0 e)) = newCap
        have hnc : 0 + m ≤ newCap := by rw [← hq]; simp only [Question.cut]; omega
        generalize hrest : (Builtin.zeroCells zz.cells (newCap - (0 + m))) = rest
        have hrow : (([] : List Value).toArray ++ es'.toArray ++ rest).toList = es' ++ rest.toList := by simp
        obtain ⟨g1, g2⟩ := St.newObj (h := h'.nil.unframe (F := F ++ blks (tipsL (us.map V.dis1) es')) fun x => by rw [tipsL_dis1]; simp [blks]) hB f1.dis1
          (fun v hv => by obtain ⟨u', hu', rfl⟩ := List.mem_map.1 hv; exact V.dis1_single (husng u' hu')) (fun t ht => by rw [tipsL_dis1] at ht; cases ht) (e := e) hrow
        refine ⟨.slice (some ⟨w.heap.size, 0, none⟩) (0 + m) newCap, _, _, _, ?_, g1.add0 ?_ rfl, hx0.trans g2⟩
        · simp only [Builtin.append_, h0, h1, harr0, harr1, Sem.run_bind, run_und ht, Result.andThen_ok, run_size hsz]
          simp only [Sem.run_bind, run_und hu, Result.andThen_ok, Sem.run_pure]
          have hns : ¬ (Builtin.nextslicecap (0 + m) 0 * i.bytes > 2 ^ 48) := by
            have h1 := nextslicecap_le (need := 0 + m) (cap := 0) (by omega)
            have h2 : Builtin.nextslicecap (0 + m) 0 * bytes ≤ 2 * (0 + m) * bytes := Nat.mul_le_mul_right _ h1
            rw [Nat.mul_assoc, Nat.zero_add] at h2
            rw [hi2, Nat.zero_add]
            unfold room at hroom
            omega
          have hb0 : ¬ (i.bytes = 0) := by omega
          simp only [hd', Bool.false_eq_true, if_false, e2, Result.andThen_ok, hcap, Bool.not_false, if_true, Sem.run_bind, run_info hinfo, hb0, or_self, and_false, hns, run_choose, Question.forced, hq, run_askRoom, hold, f3, hz, hrest, newRow, run_newObj, Sem.run_pure]
        · simp only [Rep]
          refine ⟨w.heap.size, newCap, by rw [h.len]; simp, ⟨Nat.le_refl _, by omega⟩, by rw [Nat.zero_add], _, _, _, push_new, ?_⟩
          rw [Nat.zero_add]; exact hrow2 (cs := []) (n := 0) hz hzsz hrest (by simp [RepL]) f1 (by simp) hum hnc
    · cases hr
end
end Go.Abs
