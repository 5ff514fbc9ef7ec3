/- A part of the proof of RowAirFits, RowAirHeard, RowAirOrder, RowAirLost: lemmas alone, without conditions. -/
import Derived.Test.YtpcnjabfiahhhaaGreatDoorK12
import Derived.Test.YtpcnjabfiahhhaaGreatDoorK2
set_option linter.all false
namespace Go.Abs
open Go.RowKit (Below)
section
variable {P : Program} {lim : Option Nat} {B : Nat} {F : List Nat} {nt : Nat} {S : Nat → Nat → Prop} {bl : List Nat} {vals : List (V × Value)} {H : aB} {w : World}
theorem aIr (h : St lim B F S bl vals H w) {m : Nat} {v : V} {c : Value} (hv : v.noVia = true) (hr : Rep S bl w v c) (hb : (gL H m v).rb m = true) : Rep (More S bl m w) (bl.take m) w (gL H m v) c := by
 have plain : ∀ u : V, u.noVia = true → u.rb m = true → Rep S bl w u c → Rep (More S bl m w) (bl.take m) w u c := fun u h1 h2 h3 =>
  Rep.cut u c h2 (Rep.mono (More.keeps S bl m w) (fun _ _ e => e) u c h1 h3)
 cases v with
 | ar sz id off n k => exact R2 h hv hr hb
 | nls => exact R2 h hv hr hb
 | agg cs =>
   simp only [gL, V.rb, Rep] at hb hr ⊢
   obtain ⟨a, rfl, h1, h2⟩ := hr
   obtain ⟨l1, l2⟩ := (aK _ _).1 h1
   refine ⟨a, rfl, (aK _ _).2 ⟨by simpa using l1, fun j u d hu hd => ?_⟩, fun u hu => ?_⟩
   ·rw [List.getElem?_map] at hu
    obtain ⟨x, hx, rfl⟩ := Option.map_eq_some_iff.1 hu
    have hxm := List.mem_of_getElem? hx
    exact R2 h (V.noVia_of_single (h2 x hxm)) (l2 j x d hx hd) (V.rbL_iff.1 hb _ (List.mem_map.2 ⟨x, hxm, rfl⟩))
   ·obtain ⟨x, hx, rfl⟩ := List.mem_map.1 hu
    exact aEp H m (h2 x hx)
 | _ => exact plain _ hv hb hr
theorem J4 (H : aB) (m : Nat) : ∀ (vs : List V) (cs : List Value), aH ((vs.map (gL H m)).zip cs) = aH (vs.zip cs)
 | [], _ => rfl
 | _ :: _, [] => rfl
 | v :: vs, c :: cs => by simp only [List.map_cons, List.zip_cons_cons, aH, aL3, J4 H m vs cs]
theorem St.cutFrz {vs : List V} {cs : List Value} (h : St lim B F S bl (vs.zip cs) H w) {m : Nat} (hv : ∀ v ∈ vs, v.noVia = true) (hl : lim = some m) (hm : m ≤ H.length) (hb : V.rbL m (vs.map (gL H m)) = true) :
 St lim B F (More S bl m w) (bl.take m) ((vs.map (gL H m)).zip cs) (H.take m) w := by
 have h0 : St lim B F S (bl.take m) [] (H.take m) w := (h.nil).cut (fun p hp => by cases hp) ⟨m, hl, Nat.le_refl _, fun i cs q1 q2 _ => by omega⟩ hm
 have e1 := J4 H m vs cs
 have hsub := aAc w m H bl h.len
 refine ⟨fun p hp => ?_, h0.len, fun i os b hi hb => (h0.obj i os b hi hb).mono (More.keeps S bl m w) ?_ rfl, fun x => ?_, fun t ht => ?_, fun b o hbo => ?_, h0.base, h0.refs, h0.sep⟩
 ·obtain ⟨j, hj⟩ := List.getElem?_of_mem hp
  rw [List.getElem?_zip_eq_some, List.getElem?_map] at hj
  obtain ⟨j1, j2⟩ := hj
  obtain ⟨u, hu, j3⟩ := Option.map_eq_some_iff.1 j1
  have hum := List.mem_of_getElem? hu
  have hz : (u, p.2) ∈ vs.zip cs := List.mem_of_getElem? (i := j) (by rw [List.getElem?_zip_eq_some]; exact ⟨hu, j2⟩)
  rw [← j3]
  exact aIr h (hv u hum) (h.rep _ hz) (V.rbL_iff.1 hb _ (List.mem_map.2 ⟨u, hum, rfl⟩))
 ·exact fun _ _ e => e
 ·rw [e1]
  have := h.nodup x
  rw [hsub] at this
  have a := aF4 (l := bl) (m := m) (x := x)
  simp only [aS, List.map_append, List.count_append] at this ⊢
  omega
 ·rw [e1] at ht
  have ht' : t ∈ aH (vs.zip cs) ∨ t ∈ aY w H bl := ht.imp id fun y => by rw [hsub]; exact List.mem_append_left _ y
  obtain ⟨k1, k2⟩ := h.tip t ht'
  refine ⟨⟨k1.ex, fun o ho hx => ?_, k1.le⟩, k2⟩
  rcases hx with hx | ⟨⟨id, _, hid⟩, _⟩
  ·exact k1.free o ho hx
  ·have c1 := h.nodup t.blk
   have c2 := eK (List.mem_of_getElem? hid)
   have c3 : 1 ≤ (aS (aH (vs.zip cs))).count t.blk + (aS (aY w H bl)).count t.blk := by
    rcases ht' with y | y
    ·have := St.mem_count (List.mem_map.2 ⟨t, y, rfl⟩ : t.blk ∈ aS (aH (vs.zip cs))); simp only [aS] at this ⊢; omega
    ·have := St.mem_count (List.mem_map.2 ⟨t, y, rfl⟩ : t.blk ∈ aS (aY w H bl)); simp only [aS] at this ⊢; omega
   omega
 ·rcases hbo with hx | ⟨⟨id, hid, hb⟩, hc⟩
  ·exact ⟨fun y => (h.stab b o hx).1 (List.mem_of_mem_take y), (h.stab b o hx).2⟩
  ·refine ⟨fun y => ?_, hc⟩
   obtain ⟨k, hk⟩ := List.getElem?_of_mem y
   rw [List.getElem?_take] at hk
   split at hk
   ·rename_i hkm
    exact (h.refs m hl).2.2 k id b hkm hid hk hb
   ·cases hk
theorem Ext.cut {S' : Nat → Nat → Prop} {bl' : List Nat} {vals' : List (V × Value)} {H' : aB} {w' : World} (hlen : H.length = bl.length) (g : St lim B F S' bl' vals' H' w') (x : Ext lim B F S bl H w S' bl' H' w') (hl : ∃ l, lim = some l ∧ l ≤ H.length) :
 Ext lim B F S bl H w (More S' bl' H.length w') (bl'.take H.length) (H'.take H.length) w' := by
 obtain ⟨l, rfl, hle⟩ := hl
 refine ⟨x.keeps.trans (More.keeps S' bl' H.length w'), fun b hb => ⟨(x.frame b hb).1, fun o hx => ?_⟩, x.below, fun i b hb => ?_, ?_, fun l' hl' => ⟨(x.objs l' hl').1, ?_⟩⟩
 ·rcases hx with hx | ⟨⟨id, _, hid⟩, _⟩
  ·exact (x.frame b hb).2 o hx
  ·have c1 := g.nodup b
   have c2 := eK (List.mem_of_getElem? hid)
   have c3 := St.mem_count hb
   omega
 ·have := (List.getElem?_eq_some_iff.1 hb).1
  rw [List.getElem?_take, if_pos (by omega)]
  exact x.bls i b hb
 ·have := x.len
  rw [List.length_take]; omega
 ·cases hl'
  rw [List.take_take, Nat.min_eq_left hle]
  exact (x.objs l rfl).2
theorem Ext.cut0 {S' : Nat → Nat → Prop} {bl' : List Nat} {H' : aB} {w' : World} (hlen : H.length = bl.length) (x : Ext lim B F S bl H w S' bl' H' w') (hl : ∃ l, lim = some l ∧ l ≤ H.length) :
 Ext lim B F S bl H w S' (bl'.take H.length) (H'.take H.length) w' := by
 obtain ⟨l, rfl, hle⟩ := hl
 refine ⟨x.keeps, x.frame, x.below, fun i b hb => ?_, ?_, fun l' hl' => ⟨(x.objs l' hl').1, ?_⟩⟩
 ·have := (List.getElem?_eq_some_iff.1 hb).1
  rw [List.getElem?_take, if_pos (by omega)]
  exact x.bls i b hb
 ·have := x.len
  rw [List.length_take]; omega
 ·cases hl'
  rw [List.take_take, Nat.min_eq_left hle]
  exact (x.objs l rfl).2
theorem St.hide (h : St lim B F S bl vals H w) (hv : ∀ p ∈ vals, p.1.rb 0 = true) : St (some 0) B (F ++ (dd bl ++ aS (aY w H bl))) S [] vals [] w := by
 refine ⟨fun p hp => by have := Rep.cut (m := 0) p.1 p.2 (hv p hp) (h.rep p hp); simpa using this, rfl, fun i cs b hi => by simp at hi, fun x => ?_, fun t ht => ?_, fun b o hx => ⟨by simp, (h.stab b o hx).2⟩, fun b hb => ?_, fun l hl => ?_, fun i j b cs ds _ hb => by simp at hb⟩
 ·have := h.nodup x
  have e0 : ind [] x = 0 := rfl
  simp only [List.count_append, zI, aY, aS, List.map_nil, List.count_nil, e0] at this ⊢
  omega
 ·rcases ht with ht | ht
  ·exact h.tip t (.inl ht)
  ·simp [aY] at ht
 ·rcases hb with hb | hb
  ·simp only [List.mem_append] at hb
   rcases hb with hb | hb | hb
   ·exact h.base b (.inl hb)
   ·exact h.base b (.inr (H6.1 hb))
   ·exact h.held_lt (.inr (.inr hb))
  ·cases hb
 ·cases hl
  exact ⟨Nat.le_refl _, fun i cs hi => by omega, fun i j b hi => by omega⟩
theorem St.unhide {vals' : List (V × Value)} {S' : Nat → Nat → Prop} {w' : World} (h : St lim B F S bl vals H w) (g : St (some 0) B (F ++ (dd bl ++ aS (aY w H bl))) S' [] vals' [] w') (hv : ∀ p ∈ vals', p.1.noVia = true)
 (x : Ext (some 0) B (F ++ (dd bl ++ aS (aY w H bl))) S [] [] w S' [] [] w') :
 St lim B F S' bl vals' H w' ∧ Ext lim B F S bl H w S' bl H w' ∧ ∀ b ∈ bl, w'.heap[b]? = w.heap[b]? := by
 have inb : ∀ b ∈ bl, b ∈ F ++ (dd bl ++ aS (aY w H bl)) := fun b hb => List.mem_append_right _ (List.mem_append_left _ (H6.2 hb))
 have same : ∀ b ∈ bl, w'.heap[b]? = w.heap[b]? := fun b hb => (x.frame b (inb b hb)).1
 have eh := pH H bl same
 refine ⟨⟨fun p hp => Rep.mono (Keeps.refl S' w') (fun i b e => by simp at e) p.1 p.2 (hv p hp) (g.rep p hp), h.len, fun i cs b hi hb => (h.obj i cs b hi hb).mono x.keeps (fun _ _ e => e) (same b (List.mem_of_getElem? hb)), fun y => ?_, fun t ht => ?_, fun b o hx => ⟨fun hb => ?_, (g.stab b o hx).2⟩,
  fun b hb => ⟨(h.base b hb).1, Nat.lt_of_lt_of_le (h.base b hb).2 x.below.size⟩, h.refs, h.sep⟩, ⟨x.keeps, fun b hb => x.frame b (List.mem_append_left _ hb), x.below, fun _ _ e => e, Nat.le_refl _, fun l hl => ⟨fun i b _ hb => same b (List.mem_of_getElem? hb), rfl⟩⟩, same⟩
 ·have := g.nodup y
  rw [eh]
  have e0 : ind [] y = 0 := rfl
  simp only [List.count_append, zI, aY, aS, List.map_nil, List.count_nil, e0] at this ⊢
  omega
 ·rw [eh] at ht
  rcases ht with ht | ht
  ·exact g.tip t (.inl ht)
  ·have hb : t.blk ∈ F ++ (dd bl ++ aS (aY w H bl)) := List.mem_append_right _ (List.mem_append_right _ (List.mem_map.2 ⟨t, ht, rfl⟩))
   exact ⟨(h.tip t (.inr ht)).1.mono (x.frame _ hb).1 (x.frame _ hb).2, (h.tip t (.inr ht)).2⟩
 ·exact (h.stab b o ((x.frame b (inb b hb)).2 o hx)).1 hb
theorem aKf {H : aB} {v : V} (h : (gL H 0 v).rb 0 = true) : v.noVia = true := by
 cases v <;> first | rfl | (simp [gL, V.rb] at h; done)
theorem St.hideFrz {vs : List V} {cs : List Value} (h : St lim B F S bl (vs.zip cs) H w) (hb : V.rbL 0 (vs.map (gL H 0)) = true) : St (some 0) B (F ++ (dd bl ++ aS (aY w H bl))) (More S bl 0 w) [] ((vs.map (gL H 0)).zip cs) [] w := by
 have e1 := J4 H 0 vs cs
 have hrb : ∀ u ∈ vs, (gL H 0 u).rb 0 = true := fun u hu => V.rbL_iff.1 hb _ (List.mem_map.2 ⟨u, hu, rfl⟩)
 refine ⟨fun p hp => ?_, rfl, fun i cs b hi => by simp at hi, fun x => ?_, fun t ht => ?_, fun b o hx => ⟨by simp, ?_⟩, fun b hb => ?_, fun l hl => ?_, fun i j b cs ds _ hb => by simp at hb⟩
 ·obtain ⟨j, hj⟩ := List.getElem?_of_mem hp
  rw [List.getElem?_zip_eq_some, List.getElem?_map] at hj
  obtain ⟨j1, j2⟩ := hj
  obtain ⟨u, hu, j3⟩ := Option.map_eq_some_iff.1 j1
  have hum := List.mem_of_getElem? hu
  have hz : (u, p.2) ∈ vs.zip cs := List.mem_of_getElem? (i := j) (by rw [List.getElem?_zip_eq_some]; exact ⟨hu, j2⟩)
  rw [← j3]
  have := aIr h (m := 0) (aKf (hrb u hum)) (h.rep _ hz) (hrb u hum)
  simpa using this
 ·have := h.nodup x
  have e0 : ind [] x = 0 := rfl
  rw [e1]
  simp only [List.count_append, zI, aY, aS, List.map_nil, List.count_nil, e0] at this ⊢
  omega
 ·rcases ht with ht | ht
  ·rw [e1] at ht
   obtain ⟨k1, k2⟩ := h.tip t (.inl ht)
   refine ⟨⟨k1.ex, fun o ho hx => ?_, k1.le⟩, k2⟩
   rcases hx with hx | ⟨⟨id, _, hid⟩, _⟩
   ·exact k1.free o ho hx
   ·have c1 := h.nodup t.blk
    have c2 := eK (List.mem_of_getElem? hid)
    have c3 := St.mem_count (List.mem_map.2 ⟨t, ht, rfl⟩ : t.blk ∈ aS (aH (vs.zip cs)))
    simp only [aS] at c1 c3 ⊢
    omega
  ·simp [aY] at ht
 ·rcases hx with hx | ⟨_, hc⟩
  ·exact (h.stab b o hx).2
  ·exact hc
 ·rcases hb with hb | hb
  ·simp only [List.mem_append] at hb
   rcases hb with hb | hb | hb
   ·exact h.base b (.inl hb)
   ·exact h.base b (.inr (H6.1 hb))
   ·exact h.held_lt (.inr (.inr hb))
  ·cases hb
 ·cases hl
  exact ⟨Nat.le_refl _, fun i cs hi => by omega, fun i j b hi => by omega⟩
theorem aN8 {S S' : Nat → Nat → Prop} {bl bl' : List Nat} {w w' : World} {v : V} {c : Value} (hv : v.flat = true) (h : Rep S bl w v c) : Rep S' bl' w' v c := by
 cases v <;> first | (simp only [Rep] at h ⊢; exact h) | cases hv
theorem J5 : ∀ {vs : List V} {cs : List Value}, (∀ v ∈ vs, v.flat = true) → aH (vs.zip cs) = []
 | [], _, _ => rfl
 | _ :: _, [], _ => rfl
 | v :: vs, c :: cs, h => by
   have h1 : cJ v c = [] := by
    have := h v (List.mem_cons_self ..)
    cases v <;> first | rfl | cases this
   simp only [List.zip_cons_cons, aH, h1, J5 (fun u hu => h u (List.mem_cons_of_mem _ hu)), List.append_nil]
theorem St.unhideFlat {vs : List V} {cl : List Value} {S' : Nat → Nat → Prop} {bl' : List Nat} {H1 : aB} {w' : World} (h : St lim B F S bl vals H w) (g : St (some 0) B (F ++ (dd bl ++ aS (aY w H bl))) S' bl' (vs.zip cl) H1 w') (hv : ∀ v ∈ vs, v.flat = true)
 (x : Ext (some 0) B (F ++ (dd bl ++ aS (aY w H bl))) (More S bl 0 w) [] [] w S' bl' H1 w') :
 ∃ S3, St lim B F S3 bl (vs.zip cl) H w' ∧ Ext lim B F S bl H w S3 bl H w' ∧ ∀ b ∈ bl, w'.heap[b]? = w.heap[b]? := by
 have inb : ∀ b ∈ bl, b ∈ F ++ (dd bl ++ aS (aY w H bl)) := fun b hb => List.mem_append_right _ (List.mem_append_left _ (H6.2 hb))
 have same : ∀ b ∈ bl, w'.heap[b]? = w.heap[b]? := fun b hb => (x.frame b (inb b hb)).1
 have eh := pH H bl same
 have back : ∀ b ∈ F ++ (dd bl ++ aS (aY w H bl)), ∀ o, (S' b o ∧ b ∉ bl) → S b o := fun b hb o hx => by
  rcases (x.frame b hb).2 o hx.1 with k | ⟨⟨id, _, hid⟩, _⟩
  ·exact k
  ·exact absurd (List.mem_of_getElem? hid) hx.2
 have kp : Keeps S w (fun b o => S' b o ∧ b ∉ bl) w' := ⟨fun b o hx => ⟨x.keeps.more b o (.inl hx), (h.stab b o hx).1⟩, fun b o hx => x.keeps.cell b o (.inl hx), x.keeps.size⟩
 refine ⟨fun b o => S' b o ∧ b ∉ bl, ⟨fun p hp => ?_, h.len, fun i cs b hi hb => (h.obj i cs b hi hb).mono kp (fun _ _ e => e) (same b (List.mem_of_getElem? hb)), fun y => ?_, fun t ht => ?_, fun b o hx => ⟨hx.2, (g.stab b o hx.1).2⟩,
  fun b hb => ⟨(h.base b hb).1, Nat.lt_of_lt_of_le (h.base b hb).2 x.below.size⟩, h.refs, h.sep⟩, ⟨kp, fun b hb => ⟨(x.frame b (List.mem_append_left _ hb)).1, back b (List.mem_append_left _ hb)⟩, x.below, fun _ _ e => e, Nat.le_refl _, fun l hl => ⟨fun i b _ hb => same b (List.mem_of_getElem? hb), rfl⟩⟩, same⟩
 ·exact aN8 (hv _ (List.of_mem_zip (a := p.1) (b := p.2) hp).1) (g.rep p hp)
 ·have := h.nodup y
  rw [eh, J5 hv]
  simp only [aS, List.map_nil, List.count_nil] at this ⊢
  omega
 ·rw [eh, J5 hv] at ht
  rcases ht with ht | ht
  ·cases ht
  ·have hb : t.blk ∈ F ++ (dd bl ++ aS (aY w H bl)) := List.mem_append_right _ (List.mem_append_right _ (List.mem_map.2 ⟨t, ht, rfl⟩))
   exact ⟨(h.tip t (.inr ht)).1.mono (x.frame _ hb).1 (back _ hb), (h.tip t (.inr ht)).2⟩
def aN9 (cs : List Value) : Value := match cs with | [c] => c | cs => .tuple cs.toArray
theorem aH7 (v : V) (c : Value) : (cU v c).Sublist (cJ v c) := by
 cases v with
 | tup vs =>
   have : cU (.tup vs) c = [] := by cases c <;> rfl
   rw [this]
   exact List.nil_sublist _
 | _ => exact .refl _
theorem Y0 : ∀ (vs : List V) (cs : List Value), (lU vs cs).Sublist (aH (vs.zip cs))
 | [], _ => List.nil_sublist _
 | _ :: _, [] => List.nil_sublist _
 | v :: vs, c :: cs => by
   simp only [lU, List.zip_cons_cons, aH]
   exact (aH7 v c).append (Y0 vs cs)
theorem St.tie {vs : List V} {cs : List Value} (h : St lim B F S bl (vs.zip cs) H w) (hl : vs.length = cs.length) (hv : ∀ v ∈ vs, v.noVia = true) : St lim B F S bl [(Abs.tie vs, aN9 cs)] H w := by
 have gen : St lim B F S bl [(.tup vs, .tuple cs.toArray)] H w := by
  have e1 : aH [(V.tup vs, Value.tuple cs.toArray)] = lU vs cs := by simp [aH, cJ]
  have s1 := Y0 vs cs
  refine h.trade (fun p hp => ?_) (fun t ht => s1.subset (by rw [← e1]; exact ht)) fun x => by rw [e1]; exact (s1.map Tp.blk).count_le x
  simp at hp; subst hp
  simp only [Rep]
  refine ⟨_, rfl, (aK _ _).2 ⟨by simpa using hl, fun j v c h1 h2 => ?_⟩, hv⟩
  exact h.rep (v, c) (List.mem_of_getElem? (i := j) (by rw [List.getElem?_zip_eq_some]; exact ⟨h1, h2⟩))
 match vs, cs, hl with
 | [], [], _ => exact gen
 | [v], [c], _ => exact h
 | _ :: _ :: _, _ :: _ :: _, _ => exact gen
theorem rV {vs : List V} (h : ∀ v ∈ vs, v.noVia = true) : (Abs.tie vs).noVia = true := by
 unfold Abs.tie
 split
 ·exact h _ (List.mem_cons_self ..)
 ·rfl
end
structure PrimOK (P : Program) (f : FuncId) (p : Prim) : Prop where
 fn : qT P f = true
 ok : ∀ args v, p args = some v → v.noVia = true → ∀ (s : Option Nat) (B : Nat) (F : List Nat) (S : Nat → Nat → Prop) (bl : List Nat) (cs : List Value) (H : aB) (w : World), args.length = cs.length → St s B F S bl (args.zip cs) H w → B ≤ w.heap.size →
  Calls P f cs.toArray w fun
   | .returned c, w' => ∃ S', St s B F S' bl [(v, c)] H w' ∧ Ext s B F S bl H w S' bl H w' ∧ ∀ b ∈ bl, w'.heap[b]? = w.heap[b]?
   | _, _ => False
structure TabOK (P : Program) (T : Tab) (pure : FuncId → Bool) : Prop where
 orders : P.follows .mixedOrders = true
 code : ∀ f cf, T.prim f = none → T.code f = some cf → qT P f = true ∧ okF P pure f cf = true
 prim : ∀ f p, T.prim f = some p → PrimOK P f p
 pure : ∀ f, pure f = true → T.pu f = true
section
variable {P : Program} {T : Tab} {pure : FuncId → Bool}
theorem Y1 : ∀ (args : List V) (i : Nat) (p : Nat × V), p ∈ aA i args → i ≤ p.1 ∧ p.1 < i + args.length ∧ args[p.1 - i]? = some p.2
 | [], _, _, h => by cases h
 | v :: r, i, p, h => by
   rcases List.mem_cons.1 h with rfl | h
   ·exact ⟨Nat.le_refl _, by simp, by simp⟩
   ·obtain ⟨h1, h2, h3⟩ := Y1 r (i + 1) p h
    refine ⟨by omega, by simp only [List.length_cons]; omega, ?_⟩
    rw [show p.1 - i = (p.1 - (i + 1)) + 1 by omega, List.getElem?_cons_succ]
    exact h3
theorem Y2 : ∀ (args : List V) (i : Nat), (cY (aA i args)).Nodup
 | [], _ => List.nodup_nil
 | v :: r, i => by
   simp only [aA, cY, List.map_cons, List.nodup_cons]
   refine ⟨fun h => ?_, Y2 r (i + 1)⟩
   obtain ⟨p, hp, hpi⟩ := List.mem_map.1 h
   have := (Y1 r (i + 1) p hp).1
   omega
theorem aIs (a : Act) : ∀ (args : List V) (cs : List Value) (i : Nat), args.length = cs.length → (∀ j c, cs[j]? = some c → a.tmps.getD (i + j) undef = c) → eV a (aA i args) = args.zip cs
 | [], [], _, _, _ => rfl
 | [], _ :: _, _, h, _ => by simp at h
 | _ :: _, [], _, h, _ => by simp at h
 | v :: r, c :: cs, i, h, k => by
   have h0 := k 0 c rfl
   show (v, a.tmps.getD i undef) :: eV a (aA (i + 1) r) = _
   rw [aIs a r cs (i + 1) (by simpa using h) fun j d hd => by
    have := k (j + 1) d (by simpa using hd)
    rwa [show i + (j + 1) = i + 1 + j by omega] at this]
   rw [Nat.add_zero] at h0
   rw [h0]; rfl
theorem xI {O : Orc} (hT : CallOK P O) (hO : OrcOK O pure) (hm : P.follows .mixedOrders = true) {f : FuncId} {cf : CF} (hok : okF P pure f cf = true) {lim : Option Nat} {k : Nat} {args : List V} {H H' : aB} {ex : Ex} {e' : aQ} {vs : List V}
 (ha : args.length = cf.np) (hx : d7 O lim k cf.body (aA 0 args) H = some (ex, e', H')) (hex : ∀ i, ex ≠ .exit i) (hr : aP e' H' cf.res = some vs)
 {B : Nat} {F : List Nat} {S : Nat → Nat → Prop} {bl : List Nat} {cs : List Value} {w : World} (hl : args.length = cs.length) (h : St lim B F S bl (args.zip cs) H w) (hB : B ≤ w.heap.size) :
 Calls P f cs.toArray w fun
  | .returned c, w' => ∃ S' bl' cl, c = aN9 cl ∧ vs.length = cl.length ∧ (∀ v ∈ vs, v.noVia = true) ∧ St lim B F S' bl' (vs.zip cl) H' w' ∧ Ext lim B F S bl H w S' bl' H' w'
  | _, _ => False := by
 unfold okF at hok
 split at hok
 ·rename_i fn hf
  simp only [Bool.and_eq_true, beq_iff_eq, decide_eq_true_eq] at hok
  obtain ⟨⟨⟨⟨h1, h2⟩, h3⟩, h4⟩, h5⟩ := hok
  split at h5
  ·rename_i c hb
   refine calls_of_wp hf hb ?_
   have hsz : (cs.toArray ++ Array.replicate (fn.ntmps - cs.toArray.size) undef).size = fn.ntmps := by
    simp; omega
   have hER : ER lim B F fn.ntmps S bl (aA 0 args) H { tmps := cs.toArray ++ Array.replicate (fn.ntmps - cs.toArray.size) undef, defers := [] } w := by
    refine ⟨Y2 args 0, fun p hp => ?_, ?_, hsz, rfl, hB⟩
    ·have := (Y1 args 0 p hp).2.1; omega
    ·rw [aIs _ args cs 0 hl fun j c hj => ?_]
     ·exact h
     ·have hjl := (List.getElem?_eq_some_iff.1 hj).1
      simp only [Nat.zero_add, Array.getD_eq_getD_getElem?]
      rw [Array.getElem?_append_left (by simpa using hjl)]
      simp [hj]
   refine tA hT hO hm k cf.body c h5 hx hER fun a' w' S' bl' g x => ?_
   have g0 : St lim B F S' bl' ([] ++ eV a' e') H' w' := g.st
   obtain ⟨cl, r1, r2, r3, r4⟩ := aHs (P := P) h4 (R0 h3) hr g.nodup (fun _ _ => rfl) (fun n v hv => (g.slot hv).1) g0
   have hres : (results fn a'.tmps).run P w' = .ok (aN9 cl) w' := by
    have e0 : (fn.results.mapM (s4 P a'.tmps)).run P w' = .ok cl.toArray w' := by
     rw [Array.mapM_eq_mapM_toList]
     simp only [Sem.run_map, r1, Result.andThen_ok]
    have e1 : results fn a'.tmps = (do let vs ← fn.results.mapM (s4 P a'.tmps); Pure.pure (if h : vs.size = 1 then vs[0] else .tuple vs)) := by
     unfold results
     congr 1
    rw [e1]
    simp only [Sem.run_bind, e0, Result.andThen_ok, Sem.run_pure]
    congr 1
    match cl with
    | [] => rfl
    | [c] => rfl
    | _ :: _ :: _ => simp [aN9]
   have post : a'.defers = [] ∧ ∃ v, (results fn a'.tmps).run P w' = .ok v w' ∧ ∃ S' bl' cl, v = aN9 cl ∧ vs.length = cl.length ∧ (∀ v ∈ vs, v.noVia = true) ∧ St lim B F S' bl' (vs.zip cl) H' w' ∧ Ext lim B F S bl H w S' bl' H' w' :=
    ⟨g.defers, _, hres, S', bl', cl, rfl, r3, r4, by simpa using r2, x⟩
   cases ex with
   | nrm => exact post
   | ret => exact post
   | exit i => exact absurd rfl (hex i)
  ·cases h5
 ·cases hok
theorem vU {n : Nat} {s : Option Nat} {f : FuncId} {args : List V} {H H' : aB} {r : V} (h : hY T (n + 1) s f args H = some (r, H')) :
 (∃ p, T.prim f = some p ∧ p args = some r ∧ r.noVia = true ∧ H' = H) ∨
 (T.prim f = none ∧ ∃ cf ex e1 H1 vs, T.code f = some cf ∧ args.length = cf.np ∧ d7 ⟨hY T n, T.pu⟩ (o8 cf.mode s (base cf.mode args H)) n cf.body (aA 0 (qJ cf.mode args H)) (base cf.mode args H) = some (ex, e1, H1) ∧ (∀ i, ex ≠ .exit i) ∧
  aP e1 H1 cf.res = some vs ∧ aN cf.mode s H (base cf.mode args H) vs H1 = some (r, H')) := by
 unfold hY at h
 split at h
 ·rename_i p hp
  left
  obtain ⟨v, h1, h2⟩ := Option.bind_eq_some_iff.1 h
  split at h2
  ·rename_i hv
   cases h2
   exact ⟨p, hp, h1, hv, rfl⟩
  ·cases h2
 ·rename_i hp
  right
  refine ⟨hp, ?_⟩
  split at h
  ·cases h
  ·rename_i cf hc
   split at h
   ·rename_i ha
    obtain ⟨⟨ex, e1, H1⟩, h1, h2⟩ := Option.bind_eq_some_iff.1 h
    refine ⟨cf, ex, e1, H1, ?_⟩
    cases ex with
    | exit i => cases h2
    | nrm => obtain ⟨vs, h3, h4⟩ := Option.bind_eq_some_iff.1 h2; exact ⟨vs, hc, ha, h1, (fun i e => by cases e), h3, h4⟩
    | ret => obtain ⟨vs, h3, h4⟩ := Option.bind_eq_some_iff.1 h2; exact ⟨vs, hc, ha, h1, (fun i e => by cases e), h3, h4⟩
   ·cases h
theorem xJ {e : aQ} {H : aB} : ∀ {rs : List Rs} {vs : List V}, aP e H rs = some vs → ∀ v ∈ vs, v.noVia = true
 | [], vs, h => by cases h; simp
 | r :: rs, vs, h => by
   obtain ⟨v, h1, h2⟩ := Option.bind_eq_some_iff.1 (show (M6 e H r).bind (fun v => if v.noVia then (aP e H rs).map (v :: ·) else none) = some vs from h)
   split at h2
   ·rename_i hv
    obtain ⟨vs', h3, rfl⟩ := Option.map_eq_some_iff.1 h2
    intro u hu
    rcases List.mem_cons.1 hu with rfl | hu
    ·exact hv
    ·exact xJ h3 u hu
   ·cases h2
theorem pV {H : aB} {m : Nat} {vs : List V} (h : ∀ v ∈ vs, v.noVia = true) : ∀ v ∈ vs.map (gL H m), v.noVia = true := by
 intro v hv
 obtain ⟨u, hu, rfl⟩ := List.mem_map.1 hv
 exact aJc H m (h u hu)
theorem aDr {mode : Mode} {s : Option Nat} {H H0 H1 H' : aB} {vs : List V} {r : V} (hv : ∀ v ∈ vs, v.noVia = true) (h : aN mode s H H0 vs H1 = some (r, H')) : r.noVia = true := by
 unfold aN at h
 split at h
 ·split at h
  ·cases h; exact rV (pV hv)
  ·cases h
 ·split at h
  ·cases h; exact rV hv
  ·cases h; exact rV hv
 ·cases h; exact rV hv
 ·cases h; exact rV hv
 ·split at h
  ·cases h; exact rV hv
  ·cases h
theorem aDs {f : FuncId} {cf : CF} (hp : T.prim f = none) (hc : T.code f = some cf) : T.pu f = (cf.mode == .P || cf.mode == .F) := by
 simp [Tab.pu, hp, hc]
theorem aIt {n : Nat} {args : List V} {cs : List Value} (h : V.rbL n args = true) : ∀ p ∈ args.zip cs, p.1.rb n = true := by
 intro p hp
 exact V.rbL_iff.1 h _ (List.of_mem_zip (a := p.1) (b := p.2) hp).1
theorem aKg {vs : List V} {cs : List Value} (h : ∀ v ∈ vs, v.noVia = true) : ∀ p ∈ vs.zip cs, p.1.noVia = true := fun p hp => h _ (List.of_mem_zip (a := p.1) (b := p.2) hp).1
theorem aNa {G H : aB} {v : V} (h : v.rb 0 = true) : cA G 0 v = cA H 0 v := by
 cases v <;> first | rfl | (simp [V.rb] at h; done)
theorem aQ8 {G H : aB} {args : List V} (h : V.rbL 0 args = true) : args.map (gL G 0) = args.map (gL H 0) := by
 refine List.map_congr_left fun v hv => ?_
 have hb := V.rbL_iff.1 h v hv
 cases v with
 | ar => simp [V.rb] at hb
 | agg cs =>
   simp only [gL]
   congr 1
   refine List.map_congr_left fun u hu => aNa ?_
   simp only [V.rb] at hb
   exact V.rbL_iff.1 hb u hu
 | _ => rfl
theorem aFu (hTab : TabOK P T pure) : ∀ n, CallOK P ⟨hY T n, T.pu⟩ ∧ OrcOK ⟨hY T n, T.pu⟩ pure
 | 0 => ⟨⟨fun s f args H r H' h => (by cases h)⟩, ⟨hTab.pure, fun s f args H r H' h => (by cases h), fun s f args H r H' h => (by cases h), fun s f args H r H' _ h => (by cases h)⟩⟩
 | n + 1 => by
   obtain ⟨ih1, ih2⟩ := aFu hTab n
   have hnv : ∀ s f args H r H', hY T (n + 1) s f args H = some (r, H') → r.noVia = true := fun s f args H r H' h => by
    rcases vU h with ⟨p, _, _, h3, _⟩ | ⟨_, cf, ex, e1, H1, vs, _, _, _, _, h5, h6⟩
    ·exact h3
    ·exact aDr (xJ h5) h6
   have hsame : ∀ s f args H r H', hY T (n + 1) s f args H = some (r, H') → T.pu f = true → H' = H := fun s f args H r H' h hpu => by
    rcases vU h with ⟨p, _, _, _, h4⟩ | ⟨hp, cf, ex, e1, H1, vs, hc, _, _, _, h5, h6⟩
    ·exact h4
    ·rw [aDs hp hc, Bool.or_eq_true, beq_iff_eq, beq_iff_eq] at hpu
     rcases hpu with hpu | hpu <;> (rw [hpu] at h6; simp only [aN] at h6; split at h6; (· cases h6; rfl); (· cases h6))
   refine ⟨⟨fun s f args H r H' h => ?_⟩, ⟨hTab.pure, hsame, hnv, fun s f args H r H' hpu h hrb G => ?_⟩⟩
   ·refine ⟨?_, hnv _ _ _ _ _ _ h, hsame _ _ _ _ _ _ h, fun B F S bl cs w hl hst hB => ?_⟩
    ·rcases vU h with ⟨p, h1, _⟩ | ⟨hp, cf, ex, e1, H1, vs, hc, _⟩
     ·exact (hTab.prim f p h1).fn
     ·exact (hTab.code f cf hp hc).1
    ·rcases vU h with ⟨p, h1, h2, h3, rfl⟩ | ⟨hp, cf, ex, e1, H1, vs, hc, ha, h1, h2, h3, h4⟩
     ·refine ((hTab.prim f p h1).ok args r h2 h3 s B F S bl cs _ w hl hst hB).mono fun e w' he => ?_
      cases e with
      | returned c =>
        obtain ⟨S', k1, k2, k3⟩ := he
        exact ⟨S', bl, k1, k2, fun _ => k3⟩
      | _ => exact he.elim
     ·have hok := (hTab.code f cf hp hc).2
      have hvs := xJ h3
      have hpu := aDs hp hc
      cases hmode : cf.mode with
      | K =>
        rw [hmode] at h1 h4 hpu
        simp only [aN, Option.some.injEq, Prod.mk.injEq] at h4
        obtain ⟨rfl, rfl⟩ := h4
        refine (xI ih1 ih2 hTab.orders hok ha h1 h2 h3 hl hst hB).mono fun e w' he => ?_
        cases e with
        | returned c =>
          obtain ⟨S', bl', cl, rfl, k1, k2, k3, k4⟩ := he
          exact ⟨S', bl', k3.tie k1 hvs, k4, fun q => by have q' : T.pu f = true := q; rw [hpu] at q'; cases q'⟩
        | _ => exact he.elim
      | T =>
        rw [hmode] at h1 h4 hpu
        cases s with
        | none =>
          simp only [aN, Option.some.injEq, Prod.mk.injEq] at h4
          obtain ⟨rfl, rfl⟩ := h4
          refine (xI ih1 ih2 hTab.orders hok ha h1 h2 h3 hl hst hB).mono fun e w' he => ?_
          cases e with
          | returned c =>
            obtain ⟨S', bl', cl, rfl, k1, k2, k3, k4⟩ := he
            exact ⟨S', bl', k3.tie k1 hvs, k4, fun q => by have q' : T.pu f = true := q; rw [hpu] at q'; cases q'⟩
          | _ => exact he.elim
        | some l =>
          simp only [aN] at h4
          split at h4
          ·rename_i hrb
           rw [Bool.and_eq_true] at hrb
           obtain ⟨hrb, hkept⟩ := hrb
           cases h4
           have hle := (hst.refs l rfl).1
           refine (xI ih1 ih2 hTab.orders hok ha h1 h2 h3 hl hst hB).mono fun e w' he => ?_
           cases e with
           | returned c =>
             obtain ⟨S', bl', cl, rfl, k1, k2, k3, k4⟩ := he
             have g := k3.cut (m := H.length) (aIt hrb) ⟨l, rfl, hle, fun i cs q1 q2 q3 => St.kept_all hst.wf hkept i cs q1 q2 q3⟩ k4.len
             exact ⟨_, _, g.tie k1 hvs, Ext.cut0 hst.len k4 ⟨l, rfl, hle⟩, fun q => by have q' : T.pu f = true := q; rw [hpu] at q'; cases q'⟩
           | _ => exact he.elim
          ·cases h4
           refine (xI ih1 ih2 hTab.orders hok ha h1 h2 h3 hl hst hB).mono fun e w' he => ?_
           cases e with
           | returned c =>
             obtain ⟨S', bl', cl, rfl, k1, k2, k3, k4⟩ := he
             exact ⟨S', bl', k3.tie k1 hvs, k4, fun q => by have q' : T.pu f = true := q; rw [hpu] at q'; cases q'⟩
           | _ => exact he.elim
      | F =>
        rw [hmode] at h1 h4 hpu
        simp only [aN] at h4
        split at h4
        ·rename_i hh
         rw [Bool.and_eq_true] at hh
         cases h4
         have hb : V.rbL 0 (qJ .F args H) = true := by
          by_cases hb : V.rbL 0 (qJ .F args H) = true
          ·exact hb
          ·have := hh.1
           simp only [base, if_neg hb] at this
           cases this
         have eb : base .F args H = [] := by simp only [base, if_pos hb]
         rw [eb] at h1
         simp only [o8, List.length_nil] at h1
         have hflat : ∀ v ∈ vs, v.flat = true := fun v hv => List.all_eq_true.1 hh.2 v hv
         refine (xI ih1 ih2 hTab.orders hok (args := qJ .F args H) (by simpa [qJ] using ha) h1 h2 h3 (by simpa [qJ] using hl) (hst.hideFrz hb) hB).mono fun e w' he => ?_
         cases e with
         | returned c =>
           obtain ⟨S', bl', cl, rfl, k1, k2, k3, k4⟩ := he
           obtain ⟨S3, g1, x1, q1⟩ := hst.unhideFlat k3 hflat k4
           exact ⟨S3, bl, g1.tie k1 hvs, x1, fun _ => q1⟩
         | _ => exact he.elim
        ·cases h4
      | P =>
        rw [hmode] at h1 h4 hpu
        simp only [aN] at h4
        split at h4
        ·rename_i hrb
         cases h4
         by_cases hargs : V.rbL 0 args = true
         ·
          have eb : base .P args H = [] := by simp [base, hargs]
          rw [eb] at h1 hrb ⊢
          simp only [o8, List.length_nil] at h1 hrb
          have hh := hst.hide (aIt hargs)
          refine (xI ih1 ih2 hTab.orders hok ha h1 h2 h3 hl hh hB).mono fun e w' he => ?_
          cases e with
          | returned c =>
            obtain ⟨S', bl', cl, rfl, k1, k2, k3, k4⟩ := he
            have hlim : ∃ l', (some 0 : Option Nat) = some l' ∧ l' ≤ ([] : aB).length := ⟨0, rfl, Nat.le_refl _⟩
            have g := k3.cutFrz (m := 0) hvs rfl (Nat.zero_le _) hrb
            have x := Ext.cut rfl k3 k4 hlim
            simp only [List.length_nil, List.take_zero] at g x
            obtain ⟨g1, x1, q1⟩ := hst.unhide g (aKg (pV hvs)) x
            exact ⟨_, bl, g1.tie (by simpa using k1) (pV hvs), x1, fun _ => q1⟩
          | _ => exact he.elim
         ·have eb : base .P args H = H := by simp [base, hargs]
          rw [eb] at h1 hrb ⊢
          simp only [o8] at h1
          refine (xI ih1 ih2 hTab.orders hok ha h1 h2 h3 hl hst.pin hB).mono fun e w' he => ?_
          cases e with
          | returned c =>
            obtain ⟨S', bl', cl, rfl, k1, k2, k3, k4⟩ := he
            have hlim : ∃ l', (some H.length : Option Nat) = some l' ∧ l' ≤ H.length := ⟨_, rfl, Nat.le_refl _⟩
            have g := k3.cutFrz (m := H.length) hvs rfl k4.len hrb
            have x := Ext.cut hst.len k3 k4 hlim
            have e1 : H1.take H.length = H := by have := (k4.objs _ rfl).2; rwa [List.take_length] at this
            have e2 : bl'.take H.length = bl := by
             refine List.ext_getElem? fun i => ?_
             rw [List.getElem?_take]
             by_cases hi : i < H.length
             ·rw [if_pos hi]
              have hb : bl[i]? = some (bl[i]'(by rw [← hst.len]; exact hi)) := List.getElem?_eq_getElem _
              rw [hb]
              exact k4.bls i _ hb
             ·rw [if_neg hi, List.getElem?_eq_none (by rw [← hst.len]; omega)]
            rw [e1, e2] at g x
            obtain ⟨g1, x1⟩ := hst.unpin g x
            exact ⟨_, bl, g1.tie (by simpa using k1) (pV hvs), x1, fun _ => x.objs_all hst⟩
          | _ => exact he.elim
        ·cases h4
   ·rcases vU h with ⟨p, h1, h2, h3, h4⟩ | ⟨hp, cf, ex, e1, H1, vs, hc, ha, h1, h2, h3, h4⟩
    ·show hY T (n + 1) s f args G = some (r, G)
     unfold hY
     rw [h1]
     simp only [h2, Option.bind_some, h3, if_true]
    ·have hpu : T.pu f = true := hpu
     rw [aDs hp hc, Bool.or_eq_true, beq_iff_eq, beq_iff_eq] at hpu
     show hY T (n + 1) s f args G = some (r, G)
     unfold hY
     rw [hp]
     simp only [hc, if_pos ha]
     rcases hpu with hpu | hpu
     ·rw [hpu] at h1 h4 ⊢
      have eb : ∀ K : aB, base .P args K = [] := fun K => by simp [base, hrb]
      rw [eb] at h1 h4 ⊢
      simp only [o8] at h1 ⊢
      have h1 : d7 ⟨hY T n, T.pu⟩ (some ([] : aB).length) n cf.body (aA 0 (qJ .P args G)) [] = some (ex, e1, H1) := h1
      rw [h1, Option.bind_some]
      have key : (aP e1 H1 cf.res).bind (fun vs => aN .P s G [] vs H1) = some (r, G) := by
       rw [h3, Option.bind_some]
       simp only [aN] at h4 ⊢
       split at h4
       ·rename_i hh
        cases h4
        rw [if_pos hh]
       ·cases h4
      cases ex with
      | nrm => exact key
      | ret => exact key
      | exit i => exact absurd rfl (h2 i)
     ·rw [hpu] at h1 h4 ⊢
      have ef : qJ .F args G = qJ .F args H := aQ8 hrb
      have eg : base .F args G = base .F args H := by simp only [base, ef]
      rw [ef, eg]
      have h1 : d7 ⟨hY T n, T.pu⟩ (o8 .F s (base .F args H)) n cf.body (aA 0 (qJ .F args H)) (base .F args H) = some (ex, e1, H1) := h1
      rw [h1, Option.bind_some]
      have key : (aP e1 H1 cf.res).bind (fun vs => aN .F s G (base .F args H) vs H1) = some (r, G) := by
       rw [h3, Option.bind_some]
       simp only [aN] at h4 ⊢
       split at h4
       ·rename_i hh
        cases h4
        rw [if_pos hh]
       ·cases h4
      cases ex with
      | nrm => exact key
      | ret => exact key
      | exit i => exact absurd rfl (h2 i)
theorem aQ9 (hTab : TabOK P T pure) {s : Option Nat} {f : FuncId} {args : List V} {H H' : aB} {r : V} (h : Call T s f args H = some (r, H')) {B : Nat} {F : List Nat} {S : Nat → Nat → Prop} {bl : List Nat} {cs : List Value} {w : World}
 (hl : args.length = cs.length) (hst : St s B F S bl (args.zip cs) H w) (hB : B ≤ w.heap.size) : Calls P f cs.toArray w fun
  | .returned c, w' => ∃ S' bl', St s B F S' bl' [(r, c)] H' w' ∧ Ext s B F S bl H w S' bl' H' w'
  | _, _ => False := by
 obtain ⟨n, hn⟩ := dU.1 h
 refine (((aFu hTab n).1.ok s f args H r H' hn).2.2.2 B F S bl cs w hl hst hB).mono fun e w' he => ?_
 cases e with
 | returned c => obtain ⟨S', bl', k1, k2, _⟩ := he; exact ⟨S', bl', k1, k2⟩
 | _ => exact he.elim
end
end Go.Abs
namespace Go.Abs
open Go.RowKit (Below)
section
variable {P : Program}
end
abbrev iM (t : Nat) : I := .mv (.t t)
abbrev i1 (o : O) (a : Nat) : I := .op o [.t a]
abbrev i2 (o : O) (a b : Nat) : I := .op o [.t a, .t b]
abbrev i3 (o : O) (a : Nat) (v : V) : I := .op o [.t a, .k v]
abbrev rU (d : Nat) (i : I) : eJ := (some d, none, i)
abbrev rF (d g : Nat) (i : I) : eJ := (some d, some (g, false), i)
abbrev rT (d g : Nat) (i : I) : eJ := (some d, some (g, true), i)
abbrev rN (i : I) : eJ := (none, none, i)
abbrev kI (n : Int) : X := .k (.int .i64 n)
abbrev vI (n : Int) : V := .int .i64 n
abbrev ts (l : List Nat) : List X := l.map .t
abbrev jF (o a : Nat) : I := .op (.fa o) [.t a]
abbrev jL (a : Nat) : I := .op .ld [.t a]
abbrev jD (n a : Nat) : I := .op (.ldn n) [.t a]
abbrev jZ (a : Nat) : I := .op (.len false) [.t a]
abbrev jN (a : Nat) : I := .op .nc [.t a]
abbrev jB (a : Nat) : I := .op (.un .not) [.t a]
abbrev jV (k : IntKind) (a : Nat) : I := .op (.cvi k) [.t a]
abbrev jx (z a b : Nat) : I := .op (.ix z) [.t a, .t b]
abbrev jb (o : BinOp) (a b : Nat) : I := .op (.bin o) [.t a, .t b]
abbrev jc (o : BinOp) (a : Nat) (n : Int) : I := .op (.bin o) [.t a, .k (.int .i64 n)]
abbrev jd (o : BinOp) (n : Int) (a : Nat) : I := .op (.bin o) [.k (.int .i64 n), .t a]
abbrev jo (n a : Nat) : I := .op (.box n) [.m a]
abbrev jS (n a b : Nat) : I := .op (.stn n) [.t a, .m b]
abbrev j0 : I := .mv (.k (.bool false))
abbrev j1 : I := .mv (.k (.bool true))
abbrev jm (t : Nat) : I := .mv (.m t)
abbrev jO (a b : Nat) : I := .pick (.t a) (.k (.bool true)) (.t b)
abbrev jA (a b : Nat) : I := .pick (.t a) (.t b) (.k (.bool false))
abbrev jC (f : FuncId) (l : List Nat) : I := .call f (l.map .t)
abbrev uM (d t : Nat) : eJ := (some d, none, .mv (.t t))
abbrev uF (d o a : Nat) : eJ := (some d, none, .op (.fa o) [.t a])
abbrev uL (d a : Nat) : eJ := (some d, none, .op .ld [.t a])
abbrev uN (d a : Nat) : eJ := (some d, none, .op .nc [.t a])
abbrev uD (d n a : Nat) : eJ := (some d, none, .op (.ldn n) [.t a])
abbrev uI (d : Nat) (n : Int) : eJ := (some d, none, .mv (.k (.int .i64 n)))
abbrev uO (d a b : Nat) : eJ := (some d, none, .pick (.t a) (.k (.bool true)) (.t b))
abbrev uA (d a b : Nat) : eJ := (some d, none, .pick (.t a) (.t b) (.k (.bool false)))
abbrev ux (d z a b : Nat) : eJ := (some d, none, .op (.ix z) [.t a, .t b])
abbrev uc (d : Nat) (o : BinOp) (a : Nat) (n : Int) : eJ := (some d, none, .op (.bin o) [.t a, .k (.int .i64 n)])
abbrev ub (d : Nat) (o : BinOp) (a b : Nat) : eJ := (some d, none, .op (.bin o) [.t a, .t b])
abbrev uX (d i a : Nat) : eJ := (some d, none, .op (.ext i) [.t a])
abbrev uC (d : Nat) (f : FuncId) (l : List Nat) : eJ := (some d, none, .call f (l.map .t))
abbrev um (d t : Nat) : eJ := (some d, none, .mv (.m t))
abbrev uZ (d a : Nat) : eJ := (some d, none, .op (.len false) [.t a])
abbrev rg (ks : List Nat) (rows : List eJ) : C := .reg ks [] [] [] rows
abbrev sq (ks : List Nat) (rows : List eJ) (c : C) : C := .seq (.reg ks [] [] [] rows) c
abbrev cT (n : Nat) (a b : C) : C := .cnd (.t n) a b
def A0 (P : Program) (pure : FuncId → Bool) (q : FuncId × CF) : Bool := qT P q.1 && okF P pure q.1 q.2
def y3 : List (FuncId × CF) → FuncId → Option CF
 | [], _ => none
 | (g, c) :: r, f => bif f == g then some c else y3 r f
theorem dM {P : Program} {pu : FuncId → Bool} : ∀ {l : List (FuncId × CF)} {f : FuncId} {c : CF}, l.all (A0 P pu) = true → y3 l f = some c → qT P f = true ∧ okF P pu f c = true
 | [], _, _, _, h => by cases h
 | (g, d) :: r, f, c, ha, h => by
   rw [List.all_cons, Bool.and_eq_true] at ha
   rw [y3] at h
   cases e : f == g with
   | true => rw [e, cond_true] at h; cases h; rw [eq_of_beq e]; simpa [A0] using ha.1
   | false => rw [e, cond_false] at h; exact dM ha.2 h
theorem gZ {p : Prop} {c : CF} {b : Bool} {x y : Option CF} (h : x = some c → p) (k : y = some c → p) : (bif b then x else y) = some c → p := by cases b <;> assumption
end Go.Abs
namespace Go.Abs
structure Ev {β : Type} (x : Option β) (Y : Option β → Prop) : Prop where
 so : Y x
def Is {β : Type} (r : Option β) : Option β → Prop := fun x => x = r
theorem Ev.of {β : Type} {x z : Option β} {Y : Option β → Prop} (e : x = z) (h : Ev z Y) : Ev x Y := by rw [e]; exact h
theorem aC {β : Type} {x r : Option β} (h : Ev x (Is r)) : x = r := h.so
theorem n7 {β : Type} {x r : Option β} (h : x = r) : Ev x (Is r) := ⟨h⟩
section
variable {β : Type} {T : Tab} {s : Option Nat}
noncomputable def R (T : Tab) (s : Option Nat) (c : C) (e : aQ) (H : aB) (κ : oY → Option β) : Option β := (EX T s c e H).bind κ
noncomputable def dF (T : Tab) (s : Option Nat) (c : C) (κ : oY → Option β) : oY → Option β := fun r => match r.1 with
 | .nrm => R T s c r.2.1 r.2.2 κ
 | x => κ (x, r.2.1, r.2.2)
def cZ (id : Nat) (κ : oY → Option β) : oY → Option β := fun r => match r.1 with
 | .exit j => if j = id then κ (.nrm, r.2.1, r.2.2) else κ (.exit j, r.2.1, r.2.2)
 | x => κ (x, r.2.1, r.2.2)
noncomputable def lV (T : Tab) (s : Option Nat) (c : C) (m : aB) (κ : oY → Option β) : oY → Option β := fun r => match r.1 with
 | .nrm => R T s (.loop c) r.2.1 (cK s m r.2.1 r.2.2) κ
 | x => κ (x, r.2.1, r.2.2)
noncomputable def RR (T : Tab) (s : Option Nat) (rs : List (Option Nat × Option (Nat × Bool) × I)) (e : aQ) (H : aB) (κ : aQ × aB → Option β) : Option β := (lB (orc T) s rs e H).bind κ
def dE (keep : List Nat) (conf : List (Nat × Nat × Nat × Nat)) (free fps : List Nat) (κ : oY → Option β) : aQ × aB → Option β := fun r =>
 if nK conf r.1 && hU free r.1 && sS fps r.1 then κ (.nrm, aZ keep r.1, r.2) else none
def dG (cf : CF) (s : Option Nat) (H H0 : aB) : oY → Option (V × aB) := fun r => match r.1 with
 | .exit _ => none
 | _ => (aP r.2.1 r.2.2 cf.res).bind fun vs => aN cf.mode s H H0 vs r.2.2
theorem aY7 (a b : C) (e : aQ) (H : aB) (κ : oY → Option β) : R T s (.seq a b) e H κ = R T s a e H (dF T s b κ) := by
 unfold R; rw [aRz, Option.bind_assoc]
 congr 1; funext r
 obtain ⟨x, e1, H1⟩ := r
 cases x <;> rfl
theorem aY8 (e : aQ) (H : aB) (κ : oY → Option β) : R T s .nop e H κ = κ (.nrm, e, H) := by unfold R; rw [aRw]; rfl
theorem aY9 (e : aQ) (H : aB) (κ : oY → Option β) : R T s .ret e H κ = κ (.ret, e, H) := by unfold R; rw [aRx]; rfl
theorem aU2 (id : Nat) (e : aQ) (H : aB) (κ : oY → Option β) : R T s (.exit id) e H κ = κ (.exit id, e, H) := by unfold R; rw [aOp]; rfl
theorem aYa (id : Nat) (c : C) (e : aQ) (H : aB) (κ : oY → Option β) : R T s (.blk id c) e H κ = R T s c e H (cZ id κ) := by
 unfold R; rw [aS1, Option.bind_map]
 congr 1; funext r
 obtain ⟨x, e1, H1⟩ := r
 cases x with
 | exit j => simp only [Function.comp, cZ]; split <;> rfl
 | _ => rfl
theorem aU3 (c : C) (e : aQ) (H : aB) (κ : oY → Option β) : R T s (.loop c) e H κ = R T s c e H (lV T s c H κ) := by
 unfold R; rw [aOq, Option.bind_assoc]
 congr 1; funext r
 obtain ⟨x, e1, H1⟩ := r
 cases x <;> rfl
theorem aYb {x : X} {a b : C} {e e1 : aQ} {H : aB} {κ : oY → Option β} {t : Bool} {Y : Option β → Prop} (h : eI x e = some (.bool t, e1)) (h1 : t = true → Ev (R T s a e1 H κ) Y) (h2 : t = false → Ev (R T s b e1 H κ) Y) : Ev (R T s (.cnd x a b) e H κ) Y := by
 unfold R at *; rw [aS0, h]
 cases t
 ·exact h2 rfl
 ·exact h1 rfl
theorem aYc {keep : List Nat} {conf : List (Nat × Nat × Nat × Nat)} {free fps : List Nat} {ops} {e : aQ} {H : aB} {κ : oY → Option β} {Y : Option β → Prop} (hc : gK e = true) (h : Ev (RR T s ops e H (dE keep conf free fps κ)) Y) : Ev (R T s (.reg keep conf free fps ops) e H κ) Y := by
 unfold R; rw [aRy, hc]
 simp only [Bool.not_true, Bool.false_eq_true, if_false]
 rw [Option.bind_assoc]
 refine Ev.of ?_ h
 unfold RR
 congr 1; funext r
 simp only [dE]
 split <;> rfl
theorem aU4 (e : aQ) (H : aB) (κ : aQ × aB → Option β) : RR T s [] e H κ = κ (e, H) := rfl
theorem xD {r} {rs} {e e1 : aQ} {H H1 : aB} {κ : aQ × aB → Option β} {Y : Option β → Prop} (h : lA (orc T) s r e H = some (e1, H1)) (k : Ev (RR T s rs e1 H1 κ) Y) : Ev (RR T s (r :: rs) e H κ) Y := by
 unfold RR at *
 show Ev (((lA (orc T) s r e H).bind fun q => lB (orc T) s rs q.1 q.2).bind κ) Y
 rw [h]; exact k
theorem aFn {d : Option Nat} {g : Nat} {w : Bool} {i : I} {rs} {e : aQ} {H : aB} {κ : aQ × aB → Option β} {Y : Option β → Prop} {c : Bool} (hg : eget e g = some (.bool c)) (h1 : c = w → Ev (RR T s ((d, none, i) :: rs) e H κ) Y) (h2 : c = !w → Ev (RR T s rs (aBb e d) H κ) Y) :
 Ev (RR T s ((d, some (g, w), i) :: rs) e H κ) Y := by
 by_cases hc : c = w
 ·refine Ev.of ?_ (h1 hc)
  unfold RR lB
  congr 1
  simp only [lA, hg, if_pos hc]
 ·have : c = !w := by cases c <;> cases w <;> first | rfl | exact absurd rfl hc
  refine Ev.of ?_ (h2 this)
  unfold RR
  show ((lA (orc T) s (d, some (g, w), i) e H).bind fun q => lB (orc T) s rs q.1 q.2).bind κ = _
  simp only [lA, hg, if_neg hc, Option.bind_some]
theorem aK7 (id : Nat) (κ : oY → Option β) (e : aQ) (H : aB) (j : Nat) : cZ id κ (.exit j, e, H) = if j = id then κ (.nrm, e, H) else κ (.exit j, e, H) := rfl
theorem aQ2 (c : C) (m : aB) (κ : oY → Option β) (e : aQ) (H : aB) : lV T s c m κ (.nrm, e, H) = R T s (.loop c) e (cK s m e H) κ := rfl
theorem aIl {keep : List Nat} {conf : List (Nat × Nat × Nat × Nat)} {free fps : List Nat} {κ : oY → Option β} {e e1 : aQ} {H : aB} {Y : Option β → Prop} (h : (nK conf e && hU free e && sS fps e) = true) (h1 : aZ keep e = e1) (k : Ev (κ (.nrm, e1, H)) Y) :
 Ev (RR T s [] e H (dE keep conf free fps κ)) Y := by
 rw [aU4]; unfold dE; rw [if_pos h, h1]; exact k
theorem aDl {f : FuncId} {args : List V} {H : aB} {cf : CF} (hp : T.prim f = none) (hc : T.code f = some cf) (ha : args.length = cf.np) :
 Call T s f args H = R T (o8 cf.mode s (base cf.mode args H)) cf.body (aA 0 (qJ cf.mode args H)) (base cf.mode args H) (dG cf s H (base cf.mode args H)) := by
 rw [aJ8 hp hc ha]
 unfold R
 congr 1
theorem aU5 {f : FuncId} {args : List V} {H H0 : aB} {cf : CF} {Y : Option (V × aB) → Prop} (hp : T.prim f = none) (hc : T.code f = some cf) (ha : args.length = cf.np) (hm : cf.mode = .P) (hb : V.rbL 0 args = true)
 (h : Ev (R T (some 0) cf.body (aA 0 args) [] (dG cf s H [])) Y) : Ev (Call T s f args H) Y := by
 rw [aDl hp hc ha, hm]
 have e1 : base .P args H = [] := by simp [base, hb]
 rw [e1]; exact h
theorem aU6 {f : FuncId} {args : List V} {H : aB} {cf : CF} {Y : Option (V × aB) → Prop} (hp : T.prim f = none) (hc : T.code f = some cf) (ha : args.length = cf.np) (hm : cf.mode = .P) (hb : V.rbL 0 args = false)
 (h : Ev (R T (some H.length) cf.body (aA 0 args) H (dG cf s H H)) Y) : Ev (Call T s f args H) Y := by
 rw [aDl hp hc ha, hm]
 have e1 : base .P args H = H := by simp [base, hb]
 rw [e1]; exact h
theorem aU7 {f : FuncId} {args : List V} {H : aB} {cf : CF} {Y : Option (V × aB) → Prop} (hp : T.prim f = none) (hc : T.code f = some cf) (ha : args.length = cf.np) (hm : cf.mode ≠ .P ∧ cf.mode ≠ .F)
 (h : Ev (R T s cf.body (aA 0 args) H (dG cf s H H)) Y) : Ev (Call T s f args H) Y := by
 rw [aDl hp hc ha]
 have e1 : base cf.mode args H = H := by cases hk : cf.mode <;> first | rfl | exact absurd hk hm.1 | exact absurd hk hm.2
 have e2 : o8 cf.mode s H = s := by cases hk : cf.mode <;> first | rfl | exact absurd hk hm.1 | exact absurd hk hm.2
 have e3 : qJ cf.mode args H = args := by cases hk : cf.mode <;> first | rfl | exact absurd hk hm.1 | exact absurd hk hm.2
 rw [e1, e2, e3]; exact h
theorem aU8 {f : FuncId} {args as : List V} {H : aB} {cf : CF} {Y : Option (V × aB) → Prop} (hp : T.prim f = none) (hc : T.code f = some cf) (ha : args.length = cf.np) (hm : cf.mode = .F) (hf : args.map (gL H 0) = as) (hb : V.rbL 0 as = true)
 (h : Ev (R T (some 0) cf.body (aA 0 as) [] (dG cf s H [])) Y) : Ev (Call T s f args H) Y := by
 rw [aDl hp hc ha, hm]
 have e1 : base .F args H = [] := by simp [base, qJ, hf, hb]
 rw [e1]
 have e2 : qJ .F args H = as := hf
 rw [e2]; exact h
end
end Go.Abs
namespace Go.Abs
section
variable {β : Type} {T : Tab} {s : Option Nat}
theorem aYf {a b : C} {e : aQ} {H : aB} {κ : oY → Option β} {Y : Option β → Prop} (h : Ev (R T s a e H (dF T s b κ)) Y) : Ev (R T s (.seq a b) e H κ) Y := by rw [aY7]; exact h
theorem aYg {e : aQ} {H : aB} {κ : oY → Option β} {Y : Option β → Prop} (h : Ev (κ (.nrm, e, H)) Y) : Ev (R T s .nop e H κ) Y := by rw [aY8]; exact h
theorem aYh {e : aQ} {H : aB} {κ : oY → Option β} {Y : Option β → Prop} (h : Ev (κ (.ret, e, H)) Y) : Ev (R T s .ret e H κ) Y := by rw [aY9]; exact h
theorem aUf {id : Nat} {e : aQ} {H : aB} {κ : oY → Option β} {Y : Option β → Prop} (h : Ev (κ (.exit id, e, H)) Y) : Ev (R T s (.exit id) e H κ) Y := by rw [aU2]; exact h
theorem aYi {id : Nat} {c : C} {e : aQ} {H : aB} {κ : oY → Option β} {Y : Option β → Prop} (h : Ev (R T s c e H (cZ id κ)) Y) : Ev (R T s (.blk id c) e H κ) Y := by rw [aYa]; exact h
theorem aE {c : C} {e : aQ} {H : aB} {κ : oY → Option β} {Y : Option β → Prop} (h : Ev (R T s c e H (lV T s c H κ)) Y) : Ev (R T s (.loop c) e H κ) Y := by rw [aU3]; exact h
theorem aCf {c : C} {e : aQ} {H : aB} {κ : oY → Option β} {Y : Option β → Prop} (h : Ev (R T s c e H κ) Y) : Ev (dF T s c κ (.nrm, e, H)) Y := h
theorem aKa {c : C} {e : aQ} {H : aB} {κ : oY → Option β} {Y : Option β → Prop} (h : Ev (κ (.ret, e, H)) Y) : Ev (dF T s c κ (.ret, e, H)) Y := h
theorem aH6 {c : C} {e : aQ} {H : aB} {κ : oY → Option β} {Y : Option β → Prop} {j : Nat} (h : Ev (κ (.exit j, e, H)) Y) : Ev (dF T s c κ (.exit j, e, H)) Y := h
theorem aKb {id : Nat} {e : aQ} {H : aB} {κ : oY → Option β} {Y : Option β → Prop} (h : Ev (κ (.nrm, e, H)) Y) : Ev (cZ id κ (.nrm, e, H)) Y := h
theorem aKc {id : Nat} {e : aQ} {H : aB} {κ : oY → Option β} {Y : Option β → Prop} (h : Ev (κ (.ret, e, H)) Y) : Ev (cZ id κ (.ret, e, H)) Y := h
theorem aKd {id : Nat} {e : aQ} {H : aB} {κ : oY → Option β} {Y : Option β → Prop} (h : Ev (κ (.nrm, e, H)) Y) : Ev (cZ id κ (.exit id, e, H)) Y := by rw [aK7, if_pos rfl]; exact h
theorem oR {c : C} {m : aB} {e : aQ} {H H1 : aB} {κ : oY → Option β} {Y : Option β → Prop} (ht : cK s m e H = H1) (h : Ev (R T s (.loop c) e H1 κ) Y) : Ev (lV T s c m κ (.nrm, e, H)) Y := by rw [aQ2, ht]; exact h
theorem aN6 {c : C} {m : aB} {e : aQ} {H : aB} {κ : oY → Option β} {Y : Option β → Prop} (h : Ev (κ (.ret, e, H)) Y) : Ev (lV T s c m κ (.ret, e, H)) Y := h
theorem aKe {c : C} {m : aB} {j : Nat} {e : aQ} {H : aB} {κ : oY → Option β} {Y : Option β → Prop} (h : Ev (κ (.exit j, e, H)) Y) : Ev (lV T s c m κ (.exit j, e, H)) Y := h
theorem aYj {d : Option Nat} {g : Nat} {w : Bool} {i : I} {rs} {e : aQ} {H : aB} {κ : aQ × aB → Option β} {Y : Option β → Prop} (hg : eget e g = some (.bool w)) (h : Ev (RR T s ((d, none, i) :: rs) e H κ) Y) : Ev (RR T s ((d, some (g, w), i) :: rs) e H κ) Y :=
 aFn hg (fun _ => h) (fun k => by cases w <;> cases k)
theorem aYk {d : Option Nat} {g : Nat} {w : Bool} {i : I} {rs} {e e1 : aQ} {H : aB} {κ : aQ × aB → Option β} {Y : Option β → Prop} (hg : eget e g = some (.bool !w)) (hd : aBb e d = e1) (h : Ev (RR T s rs e1 H κ) Y) : Ev (RR T s ((d, some (g, w), i) :: rs) e H κ) Y :=
 aFn hg (fun k => by cases w <;> cases k) (fun _ => by rw [hd]; exact h)
end
theorem mY (T : Orc) (s : Option Nat) (d : Option Nat) (i : I) (e : aQ) (H : aB) : lA T s (d, none, i) e H = (step T s i e H).map fun r => (pD r.2.1 d r.1, r.2.2) := rfl
theorem sN (e : aQ) (t : Nat) (v : V) : pD e (some t) v = (t, v) :: aX e t := rfl
theorem aN7 (e : aQ) (v : V) : pD e none v = e := rfl
end Go.Abs
namespace Go.Abs
theorem EVB : (∀ (s : Option Nat) (op : BinOp) (x y : V) (H : aB), apply s (.bin op) [x, y] H = (bin op x y).map (·, H)) ∧
 (∀ (k : IntKind) (a b : Int), bin .add (.int k a) (.int k b) = some (.int k (k.wrap (a + b)))) ∧ (∀ (k : IntKind) (a b : Int), bin .sub (.int k a) (.int k b) = some (.int k (k.wrap (a - b)))) ∧ (∀ (k : IntKind) (a b : Int), bin .mul (.int k a) (.int k b) = some (.int k (k.wrap (a * b)))) ∧
 (∀ (k : IntKind) (a b : Int), bin .quo (.int k a) (.int k b) = if b = 0 then none else some (.int k (k.wrap (a.tdiv b)))) ∧ (∀ (k : IntKind) (a b : Int), bin .rem (.int k a) (.int k b) = if b = 0 then none else some (.int k (a.tmod b))) ∧
 (∀ (k : IntKind) (a b : Int), bin .eql (.int k a) (.int k b) = some (.bool (a == b))) ∧ (∀ (k : IntKind) (a b : Int), bin .neq (.int k a) (.int k b) = some (.bool (a != b))) ∧
 (∀ (k : IntKind) (a b : Int), bin .lss (.int k a) (.int k b) = some (.bool (decide (a < b)))) ∧ (∀ (k : IntKind) (a b : Int), bin .leq (.int k a) (.int k b) = some (.bool (decide (a ≤ b)))) ∧
 (∀ (k : IntKind) (a b : Int), bin .gtr (.int k a) (.int k b) = some (.bool (decide (b < a)))) ∧ (∀ (k : IntKind) (a b : Int), bin .geq (.int k a) (.int k b) = some (.bool (decide (b ≤ a)))) ∧
 (∀ (k : IntKind) (a b : Int), bin .and (.int k a) (.int k b) = bits .and k a b) ∧ (∀ (k : IntKind) (a b : Int), bin .or (.int k a) (.int k b) = bits .or k a b) ∧ (∀ (k : IntKind) (a b : Int), bin .xor (.int k a) (.int k b) = bits .xor k a b) ∧ (∀ (k : IntKind) (a b : Int), bin .andNot (.int k a) (.int k b) = bits .andNot k a b) ∧
 (∀ (k j : IntKind) (a b : Int), bin .shl (.int k a) (.int j b) = if b < 0 then none else some (.int k (k.wrap (a * 2 ^ (min b.toNat k.bits))))) ∧ (∀ (k j : IntKind) (a b : Int), bin .shr (.int k a) (.int j b) = if b < 0 then none else some (.int k (a.fdiv (2 ^ (min b.toNat k.bits))))) ∧
 (∀ a b : List UInt8, bin .eql (.str a) (.str b) = some (.bool (a == b))) ∧ (∀ a b : List UInt8, bin .neq (.str a) (.str b) = some (.bool !(a == b))) ∧
 (∀ a b : List UInt8, bin .add (.str a) (.str b) = if ((a.length + b.length : Nat) : Int) > 9223372036854775807 then none else some (.str (a ++ b))) ∧
 (∀ (s : Option Nat) (n a b : Bool) (H : aB), apply s (.beq n) [.bool a, .bool b] H = some (.bool (n != (a == b)), H)) ∧
 (∀ (s : Option Nat) (n : Bool) (x y : V) (H : aB), apply s (.peq n) [x, y] H = ((M5 (xS x) (xS y)).map fun b => V.bool (n != b)).map (·, H)) ∧
 (∀ (s : Option Nat) (n : Bool) (x y : V) (H : aB), apply s (.ieq n) [x, y] H = ((M5 (d6 x) (d6 y)).map fun b => V.bool (n != b)).map (·, H)) ∧
 (xS .nilp = some true) ∧ (∀ i o, xS (.ptr i o) = some false) ∧ (∀ c i, xS (.fp c i) = some false) ∧ (d6 .nili = some true) ∧ (∀ t v, d6 (.ifc t v) = some false) ∧
 (∀ b, M5 (some true) (some b) = some b) ∧ (M5 (some false) (some true) = some false) ∧
 (∀ (s : Option Nat) (op : UnOp) (x : V) (H : aB), apply s (.un op) [x] H = (un op x).map (·, H)) ∧ (∀ b, un .not (.bool b) = some (.bool !b)) ∧ (∀ (k : IntKind) (n : Int), un .neg (.int k n) = some (.int k (k.wrap (0 - n)))) ∧
 (∀ (k : IntKind) (n : Int), un .xor (.int k n) = bits .xor k (if k.signed then -1 else k.max) n) := by
 refine ⟨fun _ _ _ _ _ => rfl, ?_, ?_, ?_, ?_, ?_, ?_, ?_, ?_, ?_, ?_, ?_, ?_, ?_, ?_, ?_, fun _ _ _ _ => rfl, fun _ _ _ _ => rfl, fun _ _ => rfl, fun _ _ => rfl, fun _ _ => rfl, fun _ _ _ _ _ => rfl, fun _ _ _ _ _ => rfl, fun _ _ _ _ _ => rfl,
  rfl, fun _ _ => rfl, fun _ _ => rfl, rfl, fun _ _ => rfl, fun b => ?_, rfl, fun _ _ _ _ => rfl, fun _ => rfl, fun _ _ => rfl, fun _ _ => rfl⟩
 all_goals first | (intro k a b; simp only [bin, if_true, iop]; done) | (intro k a b; simp only [bin, if_true, iop, gt_iff_lt, ge_iff_le]; done) | (cases b <;> rfl)
theorem EVA : (∀ (s : Option Nat) (f id o : Nat) (H : aB), apply s (.fa f) [.ptr id o] H = some (.ptr id (o + f), H)) ∧ (∀ (s : Option Nat) (f : Nat) (c : List V) (o : Nat) (H : aB), apply s (.fa f) [.fp c o] H = some (.fp c (o + f), H)) ∧
 (∀ (s : Option Nat) (z : Nat) (w : Option Nat) (n : Nat) (c : List V) (k : IntKind) (i : Int) (H : aB), apply s (.ix z) [.sl w n c, .int k i] H = if 0 ≤ i ∧ i < (n : Int) then some (.fp c (i.toNat * z), H) else none) ∧
 (∀ (s : Option Nat) (z y id off n r : Nat) (k : IntKind) (i : Int) (H : aB), apply s (.ix z) [.ar y id off n r, .int k i] H = if 0 ≤ i ∧ i < (n : Int) then some (.ptr id (off + i.toNat * z), H) else none) ∧
 (∀ (s : Option Nat) (z len id o : Nat) (k : IntKind) (i : Int) (H : aB), apply s (.ixa z len) [.ptr id o, .int k i] H = if 0 ≤ i ∧ i < (len : Int) then some (.ptr id (o + i.toNat * z), H) else none) ∧
 (∀ (s : Option Nat) (z len o : Nat) (c : List V) (k : IntKind) (i : Int) (H : aB), apply s (.ixa z len) [.fp c o, .int k i] H = if 0 ≤ i ∧ i < (len : Int) then some (.fp c (o + i.toNat * z), H) else none) ∧
 (∀ (s : Option Nat) (id o : Nat) (H : aB), apply s .ld [.ptr id o] H = (rM H id o).map fun v => (v.dis1, H)) ∧ (∀ (s : Option Nat) (c : List V) (i : Nat) (H : aB), apply s .ld [.fp c i] H = (c[i]?).map fun v => (v.dis1, H)) ∧
 (∀ (s : Option Nat) (n id o : Nat) (H : aB), apply s (.ldn n) [.ptr id o] H = (bX H id o n).map fun cs => (.agg (cs.map V.dis1), H)) ∧ (∀ (s : Option Nat) (n : Nat) (c : List V) (i : Nat) (H : aB), apply s (.ldn n) [.fp c i] H = if i + n ≤ c.length then some (.agg (((c.drop i).take n).map V.dis1), H) else none) ∧
 (∀ (s : Option Nat) (id o : Nat) (H : aB), apply s .lv [.ptr id o] H = (rM H id o).map fun v => (Z4 id o v, H)) ∧ (∀ (s : Option Nat) (c : List V) (i : Nat) (H : aB), apply s .lv [.fp c i] H = (c[i]?).map fun v => (v.dis1, H)) ∧
 (∀ (i o z n : Nat) (c : List V), Z4 i o (.sl (some z) n c) = .via i o n c) ∧ (∀ (i o n : Nat) (c : List V), Z4 i o (.sl none n c) = .sl none n c) ∧
 (∀ (s : Option Nat) (id o : Nat) (v : V) (H : aB), apply s .st [.ptr id o, v] H = if v.single && (rM H id o).isSome && bN s id (v.rb ·) then some (.tup [], yV H id o v) else none) ∧
 (∀ (s : Option Nat) (n id o : Nat) (xs : List V) (H : aB), apply s (.stn n) [.ptr id o, .agg xs] H = if xs.length = n && (bX H id o n).isSome && bN s id (V.rbL · xs) then some (.tup [], H.set id (fB ((H[id]?).getD []) o xs)) else none) ∧
 (∀ id (ok : Nat → Bool), bN none id ok = true) ∧ (∀ l id (ok : Nat → Bool), bN (some l) id ok = decide (l ≤ id)) ∧
 (∀ (s : Option Nat) (id o : Nat) (H : aB), apply s .nc [.ptr id o] H = some (.ptr id o, H)) ∧ (∀ (s : Option Nat) (c : List V) (o : Nat) (H : aB), apply s .nc [.fp c o] H = some (.fp c o, H)) ∧
 (∀ (s : Option Nat) (n : Nat) (v : V) (H : aB), apply s (.box n) [v] H = if v.boxy && v.cells.length == n then some (.ptr H.length 0, H ++ [v.cells]) else none) ∧
 (∀ (s : Option Nat) (n : Nat) (v : V) (H : aB), apply s (.bfp n) [v] H = if v.boxy && v.cells.length == n then some (.fp (v.cells.map V.dis1) 0, H) else none) ∧
 (∀ (s : Option Nat) (z : List V) (H : aB), apply s (.alc z) [] H = some (.ptr H.length 0, H ++ [z])) ∧
 (∀ (s : Option Nat) (z : List V) (ps : List (Nat × Nat)) (vs : List V) (H : aB), apply s (.bld z ps) vs H = (aW z ps vs).map fun cs => (.agg cs, H)) ∧
 (∀ (s : Option Nat) (sz : Nat) (z : List V) (len : Nat) (offs : List Nat) (vs : List V) (H : aB), apply s (.bsl sz z len offs) vs H = if len * sz ≤ 16777216 then (aW (kJ z len) (offs.map (·, sz)) vs).map fun cs => (.sl (some sz) len (cs.map V.dis1), H) else none) ∧
 (∀ cs, aW cs [] [] = some cs) ∧ (∀ cs o z ps v vs, aW cs ((o, z) :: ps) (v :: vs) = if v.boxy ∧ v.cells.length = z ∧ o + z ≤ cs.length then aW (fB cs o v.cells) ps vs else none) ∧
 (∀ z, kJ z 0 = []) ∧ (∀ z n, kJ z (n + 1) = z ++ kJ z n) := by
 refine ⟨fun _ _ _ _ _ => rfl, fun _ _ _ _ _ => rfl, ?_, ?_, ?_, ?_, ?_, ?_, ?_, ?_, ?_, ?_, fun _ _ _ _ _ => rfl, fun _ _ _ _ => rfl, fun _ _ _ _ _ => rfl, fun _ _ _ _ _ _ => rfl, fun _ _ => rfl, fun _ _ _ => rfl, fun _ _ _ _ => rfl, fun _ _ _ _ => rfl, fun _ _ _ _ => rfl, ?_, fun _ _ _ => rfl, fun _ _ _ _ _ => rfl, fun _ _ _ _ _ _ _ => rfl,
  fun _ => rfl, fun _ _ _ _ _ _ => rfl, fun _ => rfl, fun _ _ => rfl⟩
 ·intro s z w n c k i H; show (aIx z [.sl w n c, .int k i]).map (·, H) = _; simp only [aIx]; split <;> rfl
 ·intro s z y id off n r k i H; show (aIx z [.ar y id off n r, .int k i]).map (·, H) = _; simp only [aIx]; split <;> rfl
 ·intro s z len id o k i H; show (Z3 z len [.ptr id o, .int k i]).map (·, H) = _; simp only [Z3]; split <;> rfl
 ·intro s z len o c k i H; show (Z3 z len [.fp c o, .int k i]).map (·, H) = _; simp only [Z3]; split <;> rfl
 ·intro s id o H; show (aLd H [.ptr id o]).map (·, H) = _; simp only [aLd, Option.map_map]; rfl
 ·intro s c i H; show (aLd H [.fp c i]).map (·, H) = _; simp only [aLd, Option.map_map]; rfl
 ·intro s n id o H; show (O8 n H [.ptr id o]).map (·, H) = _; simp only [O8, Option.map_map]; rfl
 ·intro s n c i H; show (O8 n H [.fp c i]).map (·, H) = _; simp only [O8]; split <;> rfl
 ·intro s id o H; show (aLv H [.ptr id o]).map (·, H) = _; simp only [aLv, Option.map_map]; rfl
 ·intro s c i H; show (aLv H [.fp c i]).map (·, H) = _; simp only [aLv, Option.map_map]; rfl
 ·intro s n v H; show (aHd n [v]).map (·, H) = _; simp only [aHd]; split <;> rfl
theorem aJ5 {H : aB} {id o : Nat} {cs : List V} (h : H[id]? = some cs) : rM H id o = cs[o]? := by unfold rM; rw [h]; rfl
theorem K3 {H : aB} {id o n : Nat} {cs : List V} (h : H[id]? = some cs) : bX H id o n = if o + n ≤ cs.length then some ((cs.drop o).take n) else none := by unfold bX; rw [h]; rfl
theorem aR1 {H : aB} {id o : Nat} {cs : List V} {v : V} (h : H[id]? = some cs) : yV H id o v = H.set id (cs.set o v) := by unfold yV; rw [h]; rfl
end Go.Abs
