/- A part of the proof of RowAirFits, RowAirHeard, RowAirOrder, RowAirLost: lemmas alone, without conditions. -/
import Derived.Test.YtpcnjabfiahhhaaGreatDoorK8
import Derived.Calls
import Derived.Orders
import Derived.LoopN
set_option linter.all false
namespace Go.Abs
open Go.RowKit (Below)
set_option linter.unusedVariables false
set_option linter.unusedSimpArgs false
section
variable {P : Program} {lim : Option Nat} {B : Nat} {F : List Nat} {S : Nat → Nat → Prop} {bl : List Nat} {vals : List (V × Value)} {H : aB} {w : World}
theorem aAe {a b : List (V × Value)} (h : a.Sublist b) : (aH a).Sublist (aH b) := by
 induction h with
 | slnil => exact .refl _
 | cons p _ ih => simp only [aH]; exact ih.trans (List.sublist_append_right _ _)
 | cons_cons p _ ih => simp only [aH]; exact (List.Sublist.refl _).append ih
theorem St.subl {vals' : List (V × Value)} (h : St lim B F S bl vals H w) (k : vals'.Sublist vals) : St lim B F S bl vals' H w :=
 h.sub (fun p hp => k.subset hp) (fun t ht => (aAe k).subset ht) fun x => ((aAe k).map Tp.blk).count_le x
theorem St.pin (h : St lim B F S bl vals H w) : St (some H.length) B F S bl vals H w := by
 refine ⟨h.rep, h.len, h.obj, h.nodup, h.tip, h.stab, h.base, fun l e => ?_, h.sep⟩
 cases e
 refine ⟨Nat.le_refl _, fun i cs _ hi => V.rbL_iff.2 fun v hv => ?_, fun i j b _ hj _ hbj => by
  have := (List.getElem?_eq_some_iff.1 hbj).1; have := h.len; omega⟩
 obtain ⟨j, hj⟩ := List.getElem?_of_mem hv
 have hlt := (List.getElem?_eq_some_iff.1 hi).1
 obtain ⟨b, hb⟩ := h.blk hlt
 obtain ⟨_, c, _, hr⟩ := (h.obj i cs b hi hb).rep j v hj
 exact hr.rb (by rw [← h.len]; exact Nat.le_refl _) v c
theorem St.unpin {S' : Nat → Nat → Prop} {bl' : List Nat} {vals' : List (V × Value)} {H' : aB} {w' : World} (h : St lim B F S bl vals H w) (k : St (some H.length) B F S' bl' vals' H' w') (x : Ext (some H.length) B F S bl H w S' bl' H' w') :
 St lim B F S' bl' vals' H' w' ∧ Ext lim B F S bl H w S' bl' H' w' := by
 refine ⟨⟨k.rep, k.len, k.obj, k.nodup, k.tip, k.stab, k.base, fun l e => ?_, k.sep⟩, ⟨x.keeps, x.frame, x.below, x.bls, x.len, fun l e => ?_⟩⟩
 ·obtain ⟨h1, h2, h3⟩ := h.refs l e
  obtain ⟨k1, k2, k3⟩ := k.refs _ rfl
  refine ⟨by omega, fun i cs hil hi => ?_, fun i j b hi hj hbi hbj => ?_⟩
  rotate_left
  ·have hlen := h.len
   have old : ∀ n : Nat, n < bl.length → bl'[n]? = some b → bl[n]? = some b := fun n hn hb => by
    have h4 : bl[n]? = some bl[n] := List.getElem?_eq_getElem hn
    have := x.bls n _ h4
    rw [hb] at this; rw [h4]; exact this.symm
   by_cases hjl : j < H.length
   ·exact h3 i j b hi hj (old i (by omega) hbi) (old j (by omega) hbj)
   ·exact k3 i j b (by omega) (by omega) hbi hbj
  refine h2 i cs hil ?_
  have := (x.objs _ rfl).2
  have e1 : (H'.take H.length)[i]? = H'[i]? := by rw [List.getElem?_take, if_pos (by omega)]
  rw [this, List.take_length] at e1
  rw [e1]; exact hi
 ·obtain ⟨h1, _⟩ := h.refs l e
  obtain ⟨x1, x2⟩ := x.objs _ rfl
  refine ⟨fun i b hi hb => x1 i b (by omega) hb, ?_⟩
  have := congrArg (List.take l) x2
  simpa [List.take_take, Nat.min_eq_left h1] using this
theorem Ext.objs_all {S' : Nat → Nat → Prop} {bl' : List Nat} {H' : aB} {w' : World} (h : St lim B F S bl vals H w) (x : Ext (some H.length) B F S bl H w S' bl' H' w') : ∀ b ∈ bl, w'.heap[b]? = w.heap[b]? := by
 intro b hb
 obtain ⟨i, hi⟩ := List.getElem?_of_mem hb
 exact (x.objs _ rfl).1 i b (by have := (List.getElem?_eq_some_iff.1 hi).1; rw [h.len]; exact this) hi
theorem St.regain {S' : Nat → Nat → Prop} {bl' : List Nat} {zs rest us : List (V × Value)} {H' : aB} {w' : World} (h : St lim B F S bl (zs ++ rest) H w) (g : St lim B (F ++ aS (aH rest)) S' bl' us H' w')
 (x : Ext lim B (F ++ aS (aH rest)) S bl H w S' bl' H' w') (q : (∀ p ∈ rest, p.1.noVia = true) ∨ ∀ b ∈ bl, w'.heap[b]? = w.heap[b]?) : St lim B F S' bl' (rest ++ us) H' w' ∧ Ext lim B F S bl H w S' bl' H' w' := by
 refine ⟨g.add (fun p hp => ?_) (fun t ht => ?_), x.less fun b hb => List.mem_append_left _ hb⟩
 ·have hr := h.rep p (List.mem_append_right _ hp)
  rcases q with q | q
  ·exact Rep.mono x.keeps x.bls _ _ (q p hp) hr
  ·exact Rep.mono_via x.keeps x.bls (fun i b o e => jH (q b (List.mem_of_getElem? e)) o) _ _ hr
 ·have hb : t.blk ∈ F ++ aS (aH rest) := List.mem_append_right _ (List.mem_map.2 ⟨t, ht, rfl⟩)
  exact (h.tip t (.inl (by rw [dY]; exact List.mem_append_right _ ht))).1.mono (x.frame _ hb).1 (x.frame _ hb).2
theorem aKm {o : O} (h : o.writes = false) (lim lim' : Option Nat) (vs : List V) (H : aB) : apply lim o vs H = apply lim' o vs H := by
 cases o <;> first | rfl | cases h
theorem aUt {dst : Option Tmp} {op : Op} {ty : TypeId} {pos : String} {after : Array Edge} {guard : Option (Nat × Bool)} {a : O} {vs : List V} {r : V} {H' : aB} {rest : List (V × Value)} (ρ : Operand → Value)
 (hok : okO P op a = true) (hl : vs.length = op.operands.toList.length) (h : St lim B F S bl (vs.zip (op.operands.toList.map ρ) ++ rest) H w) (hB : B ≤ w.heap.size) (hr : apply lim a vs H = some (r, H'))
 (hc : a.writes = false ∨ ∀ p ∈ rest, p.1.noVia = true) :
 ∃ c w' S' bl', ((execOp ρ ⟨dst, op, ty, pos, after, guard⟩).run P w = .ok (.value c) w' ∨ ((execOp ρ ⟨dst, op, ty, pos, after, guard⟩).run P w = .ok .skip w' ∧ c = undef)) ∧
  St lim B F S' bl' (rest ++ [(r, c)]) H' w' ∧ Ext lim B F S bl H w S' bl' H' w' := by
 have h0 : St lim B (F ++ aS (aH rest)) S bl (vs.zip (op.operands.toList.map ρ)) H w := St.rem (h.perm List.perm_append_comm)
 by_cases hw : a.writes = false
 ·rw [aKm hw lim (some H.length)] at hr
  obtain ⟨c, w', S', bl', e, g, x⟩ := L3 (dst := dst) (ty := ty) (pos := pos) (after := after) (guard := guard) ρ hok hl h0.pin hB hr
  obtain ⟨g', x'⟩ := h0.unpin g x
  obtain ⟨g'', x''⟩ := h.regain g' x' (.inr (x.objs_all h0))
  exact ⟨c, w', S', bl', e, g'', x''⟩
 ·obtain ⟨c, w', S', bl', e, g, x⟩ := L3 (dst := dst) (ty := ty) (pos := pos) (after := after) (guard := guard) ρ hok hl h0 hB hr
  obtain ⟨g'', x''⟩ := h.regain g x (.inl (hc.resolve_left hw))
  exact ⟨c, w', S', bl', e, g'', x''⟩
end
def eV (a : Act) (e : aQ) : List (V × Value) := e.map fun p => (p.2, a.tmps.getD p.1 undef)
abbrev cY (e : aQ) : List Nat := e.map (·.1)
theorem wE : ∀ {e : aQ} {t : Nat} {v : V}, eget e t = some v → (t, v) ∈ e
 | [], _, _, h => by cases h
 | (s, u) :: e, t, v, h => by
   simp only [eget] at h
   split at h
   ·rename_i hs; cases h; subst hs; exact List.mem_cons_self ..
   ·exact List.mem_cons_of_mem _ (wE h)
theorem oA : ∀ (e : aQ) (t : Nat), (aX e t).Sublist e
 | [], _ => .refl _
 | (s, u) :: e, t => by
   simp only [aX]
   split
   ·exact (oA e t).cons _
   ·exact (oA e t).cons_cons _
theorem rZ : ∀ {e : aQ} {t : Nat} {p : Nat × V}, p ∈ aX e t → p.1 ≠ t
 | [], _, _, h => by cases h
 | (s, u) :: e, t, p, h => by
   simp only [aX] at h
   split at h
   ·exact rZ h
   ·rcases List.mem_cons.1 h with rfl | h
    ·assumption
    ·exact rZ h
theorem aCt : ∀ {e : aQ} {t : Nat}, t ∉ cY e → aX e t = e
 | [], _, _ => rfl
 | (s, u) :: e, t, h => by
   simp only [cY, List.map_cons, List.mem_cons, not_or] at h
   simp only [aX]
   rw [if_neg (fun x => h.1 x.symm), aCt h.2]
theorem wF : ∀ {e : aQ} {t : Nat} {v : V}, (cY e).Nodup → eget e t = some v → e.Perm ((t, v) :: aX e t)
 | [], _, _, _, h => by cases h
 | (s, u) :: e, t, v, hn, h => by
   simp only [cY, List.map_cons, List.nodup_cons] at hn
   simp only [eget] at h
   simp only [aX]
   split at h
   ·rename_i hs
    cases h
    subst hs
    rw [if_pos rfl, aCt hn.1]
   ·rename_i hs
    rw [if_neg hs]
    exact ((wF hn.2 h).cons _).trans (.swap ..)
theorem gO {e e' : aQ} (h : e'.Sublist e) (hn : (cY e).Nodup) : (cY e').Nodup := hn.sublist (h.map _)
theorem aIz {a : Act} {e e' : aQ} (h : e'.Sublist e) : (eV a e').Sublist (eV a e) := h.map _
theorem aAf : ∀ {e : aQ}, gK e = true ↔ ∀ p ∈ e, p.2.noVia = true
 | [] => by simp [gK]
 | (s, v) :: e => by simp only [gK, Bool.and_eq_true, aAf (e := e), List.forall_mem_cons]
theorem F1 {a : Act} {e : aQ} (h : gK e = true) : ∀ p ∈ eV a e, p.1.noVia = true := by
 intro p hp
 obtain ⟨q, hq, rfl⟩ := List.mem_map.1 hp
 exact aAf.1 h q hq
section
variable {P : Program} {lim : Option Nat} {B : Nat} {F : List Nat} {S : Nat → Nat → Prop} {bl : List Nat} {us : List (V × Value)} {H : aB} {w : World} {a : Act}
theorem i5 {o : Operand} {x : X} {e e' : aQ} {v : V} (hok : okX o x = true) (he : eI x e = some (v, e')) (hn : (cY e).Nodup) (h : St lim B F S bl (us ++ eV a e) H w) :
 St lim B F S bl (us ++ (v, a.eval o) :: eV a e') H w ∧ e'.Sublist e := by
 cases x with
 | t n =>
   obtain rfl : o = .tmp n := by
    cases o <;> simp [okX] at hok
    rw [hok]
   obtain ⟨u, hu, e1⟩ := Option.map_eq_some_iff.1 (show (eget e n).map (fun x => (x.dis, e)) = some (v, e') from he)
   cases e1
   have hm : (u, a.tmps.getD n undef) ∈ eV a e := List.mem_map.2 ⟨(n, u), wE hu, rfl⟩
   refine ⟨?_, .refl _⟩
   exact (St.copy (p := (u, a.tmps.getD n undef)) h (List.mem_append_right _ hm) (v := u.dis) (fun _ _ _ hr => hr.dis) (T3 _ _)).perm (by
    exact (List.perm_middle (l₁ := us) (a := (u.dis, a.eval (.tmp n))) (l₂ := eV a e)))
 | m n =>
   obtain rfl : o = .tmp n := by
    cases o <;> simp [okX] at hok
    rw [hok]
   obtain ⟨u, hu, e1⟩ := Option.map_eq_some_iff.1 (show (eget e n).map (fun x => (x, aX e n)) = some (v, e') from he)
   cases e1
   refine ⟨h.perm ?_, oA _ _⟩
   exact .append_left us ((wF hn hu).map (fun p : Nat × V => (p.2, a.tmps.getD p.1 undef))).symm
 | k u =>
   obtain ⟨rfl, rfl⟩ : u = v ∧ e = e' := by simpa [eI] using he
   cases o with
   | const c =>
     simp only [okX] at hok
     exact ⟨(h.add0 (v := u) (c := c) (xK u c hok) (C2 u c hok)).perm List.perm_middle, .refl _⟩
   | func f =>
     cases u <;> try (simp [okX] at hok; done)
     rename_i g l
     simp only [okX, Bool.and_eq_true, beq_iff_eq, List.isEmpty_iff] at hok
     obtain ⟨rfl, rfl⟩ := hok
     exact ⟨(h.add0 (v := .fn f []) (c := .func (.func f) #[] #[]) (by simp only [Rep]; exact ⟨#[], rfl, by simp [RepL], by simp⟩) rfl).perm List.perm_middle, .refl _⟩
   | _ => simp [okX] at hok
theorem aAg : ∀ {os : List Operand} {xs : List X} {us : List (V × Value)} {e e' : aQ} {vs : List V}, G2 os xs = true → dB xs e = some (vs, e') → (cY e).Nodup → St lim B F S bl (us ++ eV a e) H w →
 St lim B F S bl (us ++ vs.zip (os.map a.eval) ++ eV a e') H w ∧ e'.Sublist e ∧ vs.length = os.length
 | [], [], us, e, e', vs, hok, he, hn, h => by
   cases (show some ([], e) = some (vs, e') from he)
   exact ⟨by simpa using h, .refl _, rfl⟩
 | [], _ :: _, _, _, _, _, hok, _, _, _ => by simp [G2] at hok
 | _ :: _, [], _, _, _, _, hok, _, _, _ => by simp [G2] at hok
 | o :: os, x :: xs, us, e, e', vs, hok, he, hn, h => by
   simp only [G2, Bool.and_eq_true] at hok
   simp only [dB, Option.bind_eq_some_iff, Option.map_eq_some_iff] at he
   obtain ⟨⟨v, e1⟩, h1, ⟨vs', e2⟩, h2, h3⟩ := he
   cases h3
   obtain ⟨g1, g2⟩ := i5 hok.1 h1 hn h
   obtain ⟨k1, k2, k3⟩ := aAg (us := us ++ [(v, a.eval o)]) hok.2 h2 (gO g2 hn) (by simpa using g1)
   exact ⟨by simpa using k1, k2.trans g2, by simp [k3]⟩
end
structure ER (lim : Option Nat) (B : Nat) (F : List Nat) (nt : Nat) (S : Nat → Nat → Prop) (bl : List Nat) (e : aQ) (H : aB) (a : Act) (w : World) : Prop where
 nodup : (cY e).Nodup
 bnd : ∀ p ∈ e, p.1 < nt
 st : St lim B F S bl (eV a e) H w
 size : a.tmps.size = nt
 defers : a.defers = []
 room : B ≤ w.heap.size
section
variable {P : Program} {lim : Option Nat} {B : Nat} {F : List Nat} {nt : Nat} {S : Nat → Nat → Prop} {bl : List Nat} {us : List (V × Value)} {e : aQ} {H : aB} {w : World} {a : Act}
theorem aUu {t : Nat} {c : Value} {e : aQ} (h : ∀ p ∈ e, p.1 ≠ t) : eV (a.put (some t) c) e = eV a e := by
 refine List.map_congr_left fun p hp => ?_
 simp only [Act.put, Array.getD_eq_getD_getElem?, Array.getElem?_setIfInBounds_ne (Ne.symm (h p hp))]
theorem ER.sub {e' : aQ} (h : ER lim B F nt S bl e H a w) (k : e'.Sublist e) : ER lim B F nt S bl e' H a w :=
 ⟨gO k h.nodup, fun p hp => h.bnd p (k.subset hp), h.st.subl (aIz k), h.size, h.defers, h.room⟩
theorem aJ0 {t : Nat} {e : aQ} {nt : Nat} (h : ∀ p ∈ e, p.1 < nt) : ∀ p ∈ aX e t, p.1 < nt := fun p hp => h p ((oA e t).subset hp)
theorem ER.put {d : Option Nat} {v : V} {c : Value} (hn : (cY e).Nodup) (hb : ∀ p ∈ e, p.1 < nt) (hs : a.tmps.size = nt) (hd : a.defers = []) (hB : B ≤ w.heap.size) (hlt : ∀ t, d = some t → t < nt)
 (h : St lim B F S bl (eV a e ++ [(v, c)]) H w) : ER lim B F nt S bl (pD e d v) H (a.put d c) w := by
 cases d with
 | none => exact ⟨hn, hb, h.subl (List.sublist_append_left _ _), hs, hd, hB⟩
 | some t =>
   have ht := hlt t rfl
   refine ⟨?_, ?_, ?_, by simp [Act.put, hs], hd, hB⟩
   ·simp only [pD, vB, cY, List.map_cons, List.nodup_cons]
    refine ⟨fun hm => ?_, gO (oA e t) hn⟩
    obtain ⟨p, hp, rfl⟩ := List.mem_map.1 hm
    exact rZ hp rfl
   ·intro p hp
    rcases List.mem_cons.1 hp with rfl | hp
    ·exact ht
    ·exact aJ0 hb p hp
   ·have e1 : eV (a.put (some t) c) (vB e t v) = (v, c) :: eV a (aX e t) := by
     simp only [vB]
     show (v, (a.put (some t) c).tmps.getD t undef) :: eV (a.put (some t) c) (aX e t) = _
     rw [aUu fun p hp => rZ hp]
     congr 2
     simp [Act.put, Array.getD_eq_getD_getElem?, hs, ht]
    rw [show pD e (some t) v = vB e t v from rfl, e1]
    exact (h.perm (vals' := (v, c) :: eV a e) (List.perm_append_singleton _ _).symm).subl ((aIz (oA e t)).cons_cons _)
theorem ER.skip {d : Option Nat} (hlt : ∀ t, d = some t → t < nt) (h : ER lim B F nt S bl e H a w) : ER lim B F nt S bl (aBb e d) H (a.put d undef) w :=
 ER.put h.nodup h.bnd h.size h.defers h.room hlt ((h.st.add0 (v := .tup []) (c := undef) (by simp only [Rep, undef]; exact ⟨#[], rfl, by simp [RepL], by simp⟩) rfl).perm (List.perm_append_singleton _ _))
end
end Go.Abs
namespace Go.Abs
open Go.RowKit (Below)
set_option linter.unusedVariables false
set_option linter.unusedSimpArgs false
structure CallOK (P : Program) (T : Orc) : Prop where
 ok : ∀ (s : Option Nat) (f : FuncId) (args : List V) (H : aB) (r : V) (H' : aB), T.run s f args H = some (r, H') → qT P f = true ∧ r.noVia = true ∧ (T.pu f = true → H' = H) ∧
  ∀ (B : Nat) (F : List Nat) (S : Nat → Nat → Prop) (bl : List Nat) (cs : List Value) (w : World), args.length = cs.length → St s B F S bl (args.zip cs) H w → B ≤ w.heap.size →
   Calls P f cs.toArray w fun
    | .returned c, w' => ∃ S' bl', St s B F S' bl' [(r, c)] H' w' ∧ Ext s B F S bl H w S' bl' H' w' ∧ (T.pu f = true → ∀ b ∈ bl, w'.heap[b]? = w.heap[b]?)
    | _, _ => False
def Did (P : Program) (a : Act) (o : Oper) (w : World) (K : Value → World → Prop) : Prop :=
 (∃ c w', ((execOp a.eval o).run P w = .ok (.value c) w' ∨ ((execOp a.eval o).run P w = .ok .skip w' ∧ c = undef)) ∧ K c w') ∨
 ∃ f args, (execOp a.eval o).run P w = .ok (.enter f args) w ∧ Calls P f args w fun
  | .returned c, w' => K c w'
  | _, _ => False
section
variable {P : Program} {lim : Option Nat} {B : Nat} {F : List Nat} {nt : Nat} {S : Nat → Nat → Prop} {bl : List Nat} {us vals : List (V × Value)} {e : aQ} {H : aB} {w : World} {a : Act}
theorem Did.mono {o : Oper} {K K' : Value → World → Prop} (h : Did P a o w K) (k : ∀ c w', K c w' → K' c w') : Did P a o w K' := by
 rcases h with ⟨c, w', h1, h2⟩ | ⟨f, args, h1, h2⟩
 ·exact .inl ⟨c, w', h1, k _ _ h2⟩
 ·exact .inr ⟨f, args, h1, h2.mono fun e w'' he => by cases e <;> first | exact k _ _ he | exact he⟩
theorem Did.wp {o : Oper} {K : Value → World → Prop} {next : Act → World → Prop} {Q : Exit → Act → World → Prop} (h : Did P a o w K) (k : ∀ c w', K c w' → next (a.put o.dst c) w') : o.wp P a w next Q := by
 unfold Oper.wp
 rcases h with ⟨c, w', h1 | ⟨h1, rfl⟩, h2⟩ | ⟨f, args, h1, h2⟩
 ·rw [h1]; exact k _ _ h2
 ·rw [h1]; exact k _ _ h2
 ·rw [h1]
  exact h2.mono fun e w'' he => by
   cases e with
   | returned c => exact k _ _ he
   | _ => exact he.elim
theorem wJ {f : FuncId} {args : Array Value} (h : qT P f = true) : (callFunc f args).run P w = .ok (.enter f args) w := by
 unfold qT at h
 split at h
 ·rename_i fn hf
  simp only [Bool.and_eq_true, bne_iff_ne, ne_eq] at h
  obtain ⟨h1, h2⟩ := h
  have h3 : fn.body.isNone = false := by simpa using h1
  have h4 : (fn.name == "runtime.NumGoroutine") = false := by simpa using h2
  simp only [callFunc, Sem.run_bind, run_program, Result.andThen_ok, hf, h4, h3, Bool.false_eq_true, if_false, Sem.run_pure]
 ·cases h
theorem aGk {name : String} {t : TypeId} {f : FuncId} {v : Value} {n : Nat} (h : G6 P name t f = true) : (method (n + 1) t v name).run P w = .ok (f, v) w ∧ qT P f = true := by
 unfold G6 at h
 split at h
 ·rename_i i hi
  split at h
  ·rename_i m hm
   simp only [Bool.and_eq_true] at h
   obtain ⟨hp, h⟩ := h
   split at h
   ·rename_i g pr hg
    simp only [Bool.and_eq_true, beq_iff_eq] at h
    obtain ⟨⟨rfl, hf⟩, h⟩ := h
    refine ⟨?_, hf⟩
    have hpath : m.path.toList = [] := by simpa using hp
    cases hu : P.underlying t with
    | none => rw [hu] at h; cases h
    | some d =>
      rw [hu] at h
      simp only [method, Sem.run_bind, fJ hi, Result.andThen_ok, hm, hpath, follow, Sem.run_pure, hg, receiverAt, aO hu]
      cases d <;> simp only at h <;> (first | subst h | (simp only [Bool.not_eq_true'] at h; subst h)) <;> simp [Place.get]
   ·cases h
  ·cases h
 ·cases h
theorem Q8 {T : Orc} (hT : CallOK P T) {o : Oper} {f : FuncId} {vs : List V} {cs : List Value} {r : V} {H' : aB} {rest : List (V × Value)} (hrun : (execOp a.eval o).run P w = .ok (.enter f cs.toArray) w)
 (hr : T.run lim f vs H = some (r, H')) (hl : vs.length = cs.length) (h : St lim B F S bl (vs.zip cs ++ rest) H w) (hB : B ≤ w.heap.size) (hc : T.pu f = true ∨ ∀ p ∈ rest, p.1.noVia = true) :
 Did P a o w fun c w' => ∃ S' bl', St lim B F S' bl' (rest ++ [(r, c)]) H' w' ∧ Ext lim B F S bl H w S' bl' H' w' := by
 have h0 : St lim B (F ++ aS (aH rest)) S bl (vs.zip cs) H w := St.rem (h.perm List.perm_append_comm)
 obtain ⟨h1, h2, h3, h4⟩ := hT.ok _ _ _ _ _ _ hr
 refine .inr ⟨f, _, hrun, (h4 _ _ _ _ cs w hl h0 hB).mono fun e w' he => ?_⟩
 cases e with
 | returned c =>
   obtain ⟨S', bl', g, x, q⟩ := he
   obtain ⟨g', x'⟩ := h.regain g x (hc.elim (fun k => .inr (q k)) .inl)
   exact ⟨S', bl', g', x'⟩
 | _ => exact he.elim
theorem aEn {name : String} {t : TypeId} {f : FuncId} {v : Value} (h : G6 P name t f = true) : (method (P.types.size + Made.depth) t v name).run P w = .ok (f, v) w ∧ qT P f = true := by
 have hd : P.types.size + Made.depth = (P.types.size + (Made.depth - 1)) + 1 := by
  have : 0 < Made.depth := by decide
  omega
 rw [hd]
 exact aGk h
theorem St.trade {vals' : List (V × Value)} (h : St lim B F S bl vals H w) (hr : ∀ p ∈ vals', Rep S bl w p.1 p.2) (ht : ∀ t ∈ aH vals', t ∈ aH vals) (hc : ∀ x, (aS (aH vals')).count x ≤ (aS (aH vals)).count x) : St lim B F S bl vals' H w :=
 ⟨hr, h.len, h.obj, fun x => by have := h.nodup x; have := hc x; omega, fun t k => h.tip t (k.imp (ht t) id), h.stab, h.base, h.refs, h.sep⟩
theorem aBl : ∀ {vs : List V} {cs : List Value} {i : Nat} {v : V} {c : Value}, vs[i]? = some v → cs[i]? = some c →
 (∀ t ∈ lU (vs.set i v.dis2) cs, t ∈ lU vs cs) ∧ ∀ x, (aS (lU (vs.set i v.dis2) cs)).count x + (aS (cU v c)).count x = (aS (lU vs cs)).count x
 | [], _, _, _, _, h, _ => by simp at h
 | _ :: _, [], _, _, _, _, h => by simp at h
 | u :: vs, d :: cs, 0, v, c, h, k => by
   simp at h k; subst h; subst k
   simp only [List.set_cons_zero, lU, u0, List.nil_append]
   exact ⟨fun t ht => List.mem_append_right _ ht, fun x => by simp only [aS, List.map_append, List.count_append]; omega⟩
 | u :: vs, d :: cs, i + 1, v, c, h, k => by
   obtain ⟨a1, a2⟩ := aBl (vs := vs) (cs := cs) (i := i) (v := v) (c := c) (by simpa using h) (by simpa using k)
   simp only [List.set_cons_succ, lU]
   refine ⟨fun t ht => ?_, fun x => ?_⟩
   ·rcases List.mem_append.1 ht with ht | ht
    ·exact List.mem_append_left _ ht
    ·exact List.mem_append_right _ (a1 t ht)
   ·have := a2 x
    simp only [aS, List.map_append, List.count_append] at this ⊢
    omega
theorem aEo (vs : List V) (a : Array Value) : cJ (.tup vs) (.tuple a) = lU vs a.toList := rfl
theorem F7 {v u : V} {c : Value} (h : V.ntup v = some u) : u = v ∧ cJ v c = cU v c ∧ v.noVia = true := by
 cases v <;> first | (cases h; exact ⟨rfl, rfl, rfl⟩) | cases h
theorem RepL.set_dis2 : ∀ {vs : List V} {cs : List Value} {i : Nat} {v : V}, RepL S bl w vs cs → vs[i]? = some v → RepL S bl w (vs.set i v.dis2) cs
 | [], _, _, _, _, h => by simp at h
 | u :: vs, cs, 0, v, h, k => by
   simp at k; subst k
   simp only [RepL] at h
   obtain ⟨c, r, rfl, h1, h2⟩ := h
   simp only [List.set_cons_zero, RepL]
   exact ⟨c, r, rfl, h1.dis2, h2⟩
 | u :: vs, cs, i + 1, v, h, k => by
   simp only [RepL] at h
   obtain ⟨c, r, rfl, h1, h2⟩ := h
   simp only [List.set_cons_succ, RepL]
   exact ⟨c, r, rfl, h1, RepL.set_dis2 h2 (by simpa using k)⟩
theorem Q9 {t : TypeId} {f : FuncId} : ∀ l : List (TypeId × FuncId), l.lookup t = some f → (t, f) ∈ l
 | [], h => by cases h
 | (u, g) :: l, h => by
   simp only [List.lookup] at h
   split at h
   ·rename_i hu
    rw [beq_iff_eq] at hu
    cases h
    subst hu
    exact List.mem_cons_self ..
   ·exact List.mem_cons_of_mem _ (Q9 l h)
theorem F8 : ∀ (c1 : List V) (d1 : List Value), (∀ v ∈ c1, v.single = true) → aH ((c1.map V.dis1).zip d1) = []
 | [], d1, _ => rfl
 | u :: c1, [], _ => rfl
 | u :: c1, d :: d1, h => by
   simp only [List.map_cons, List.zip_cons_cons, aH, F8 c1 d1 fun v hv => h v (List.mem_cons_of_mem _ hv), List.append_nil]
   rw [fV (.inr trivial) (.inl (V.dis1_single (h u (List.mem_cons_self ..)))), fF]
theorem St.swapCaps {f : FuncId} {caps : List V} {ds : List Value} {c : Value} {zs rest : List (V × Value)} (h : St lim B F S bl ([(V.fn f caps, c)] ++ zs ++ rest) H w) (hr : RepL S bl w caps ds) (hs : ∀ v ∈ caps, v.single = true) :
 St lim B F S bl (zs ++ (caps.map V.dis1).zip ds ++ rest) H w := by
 refine h.trade (fun p hp => ?_) (fun t ht => ?_) (fun z => ?_)
 ·simp only [List.mem_append] at hp
  rcases hp with (hp | hp) | hp
  ·exact h.rep p (by simp [hp])
  ·obtain ⟨j, hj⟩ := List.getElem?_of_mem hp
   rw [List.getElem?_zip_eq_some] at hj
   exact ((aK _ _).1 hr.dis1).2 j p.1 p.2 hj.1 hj.2
  ·exact h.rep p (by simp [hp])
 ·simp only [dY, F8 caps ds hs, List.append_nil, List.mem_append] at ht ⊢
  exact ht.elim (fun k => .inl (.inr k)) .inr
 ·simp only [dY, F8 caps ds hs, List.append_nil, aS, List.map_append, List.count_append]
  omega
theorem aL2 {T : Orc} (hT : CallOK P T) {o : Oper} {i : I} {e' : aQ} {v : V} {H' : aB} (hok : okI P o i = true) (hs : step T lim i e H = some (v, e', H')) (h : ER lim B F nt S bl e H a w) :
 (cY e').Nodup ∧ (∀ p ∈ e', p.1 < nt) ∧ Did P a o w fun c w' => ∃ S' bl', St lim B F S' bl' (eV a e' ++ [(v, c)]) H' w' ∧ Ext lim B F S bl H w S' bl' H' w' := by
 have hst : St lim B F S bl ([] ++ eV a e) H w := h.st
 have sub : ∀ e1 : aQ, e1.Sublist e → (cY e1).Nodup ∧ ∀ p ∈ e1, p.1 < nt := fun e1 k => ⟨gO k h.nodup, fun p hp => h.bnd p (k.subset hp)⟩
 obtain ⟨dst, op, ty, pos, after, guard⟩ := o
 cases i with
 | mv x =>
   obtain ⟨⟨u, e1⟩, he, e2⟩ := Option.map_eq_some_iff.1 (show (eI x e).map (fun r => (r.1, r.2, H)) = some (v, e', H') from hs)
   cases e2
   obtain ⟨y, hop, hx⟩ : ∃ y, (op = .move y ∨ op = .assign y) ∧ okX y x = true := by
    cases op <;> simp only [okI] at hok <;> first | exact ⟨_, .inl rfl, hok⟩ | exact ⟨_, .inr rfl, hok⟩ | cases hok
   obtain ⟨g, k⟩ := i5 hx he h.nodup hst
   refine ⟨(sub _ k).1, (sub _ k).2, .inl ⟨a.eval y, w, .inl ?_, S, bl, g.perm (List.perm_append_singleton _ _), Ext.refl _ _ _ _ _ _ _⟩⟩
   rcases hop with rfl | rfl <;> rfl
 | op b xs =>
   have hb : b ≠ .pan := fun hb => by
    subst hb
    simp only [step, Option.bind_eq_some_iff] at hs
    obtain ⟨⟨vs, e1⟩, he, hs⟩ := hs
    split at hs <;> cases hs
   have hok' : G2 op.operands.toList xs = true ∧ okO P op b = true := by
    cases b <;> first | exact absurd rfl hb | (simp only [okI, Bool.and_eq_true] at hok; exact hok)
   simp only [step, Option.bind_eq_some_iff] at hs
   obtain ⟨⟨vs, e1⟩, he, hs⟩ := hs
   split at hs
   ·rename_i hc
    obtain ⟨q, hq, e2⟩ := Option.map_eq_some_iff.1 hs
    obtain ⟨r, H1⟩ := q
    cases e2
    obtain ⟨g, k, hl⟩ := aAg hok'.1 he h.nodup hst
    simp only [List.nil_append] at g
    obtain ⟨c, w', S', bl', k1, k2, k3⟩ := aUt (dst := dst) (ty := ty) (pos := pos) (after := after) (guard := guard) a.eval hok'.2 hl g h.room hq (by
     simp only [Bool.or_eq_true, Bool.not_eq_true'] at hc
     exact hc.imp id F1)
    exact ⟨(sub _ k).1, (sub _ k).2, .inl ⟨c, w', k1, S', bl', k2, k3⟩⟩
   ·cases hs
 | pick c x y =>
   simp only [step, Option.bind_eq_some_iff] at hs
   obtain ⟨⟨u, e1⟩, he, hs⟩ := hs
   cases u <;> try cases hs
   rename_i t
   obtain ⟨⟨u, e2⟩, he2, e3⟩ := Option.map_eq_some_iff.1 hs
   cases e3
   obtain ⟨oc, ox, oy, rfl, h1, h2, h3⟩ : ∃ oc ox oy, op = .pick oc ox oy ∧ okX oc c = true ∧ okX ox x = true ∧ okX oy y = true := by
    cases op <;> simp only [okI, Bool.and_eq_true] at hok <;> first | exact ⟨_, _, _, rfl, hok.1.1, hok.1.2, hok.2⟩ | cases hok
   obtain ⟨g, k⟩ := i5 h1 he h.nodup hst
   have hb := (g.rep _ (List.mem_append_right _ (List.mem_cons_self ..))).bool_inv
   simp only at hb
   have hrun : (execOp a.eval ⟨dst, .pick oc ox oy, ty, pos, after, guard⟩).run P w = .ok (.value (if t then a.eval ox else a.eval oy)) w := by
    simp only [execOp, hb, asBool, Sem.run_bind, Sem.run_pure, Result.andThen_ok]
   have g0 : St lim B F S bl ([] ++ eV a e1) H w := g.subl (by simp)
   cases t
   ·obtain ⟨g', k'⟩ := i5 h3 (show eI y e1 = some (u, e2) from he2) (gO k h.nodup) g0
    exact ⟨(sub _ (k'.trans k)).1, (sub _ (k'.trans k)).2, .inl ⟨_, w, .inl hrun, S, bl, g'.perm (List.perm_append_singleton _ _), Ext.refl _ _ _ _ _ _ _⟩⟩
   ·obtain ⟨g', k'⟩ := i5 h2 (show eI x e1 = some (u, e2) from he2) (gO k h.nodup) g0
    exact ⟨(sub _ (k'.trans k)).1, (sub _ (k'.trans k)).2, .inl ⟨_, w, .inl hrun, S, bl, g'.perm (List.perm_append_singleton _ _), Ext.refl _ _ _ _ _ _ _⟩⟩
 | exm j t =>
   simp only [step] at hs
   split at hs
   ·rename_i vs hg
    obtain ⟨u, hu, e1⟩ := Option.map_eq_some_iff.1 hs
    cases e1
    obtain ⟨u', hu', hn⟩ := Option.bind_eq_some_iff.1 hu
    obtain ⟨rfl, ht2, hnv⟩ : v = u' ∧ (∀ c, cJ u' c = cU u' c) ∧ u'.noVia = true := ⟨(F7 (c := undef) hn).1, fun c => (F7 hn).2.1, (F7 (c := undef) hn).2.2⟩
    obtain rfl : op = .extract (.tmp t) j := by
     cases op <;> simp only [okI] at hok <;> try cases hok
     rename_i y k
     cases y <;> simp [okI] at hok
     rw [hok.1, hok.2]
    have hm : (t, V.tup vs) ∈ e := wE hg
    have hm' : (V.tup vs, a.tmps.getD t undef) ∈ eV a e := List.mem_map.2 ⟨_, hm, rfl⟩
    have hr := h.st.rep _ hm'
    simp only [Rep] at hr
    obtain ⟨arr, harr, hr1, hr2⟩ := hr
    obtain ⟨c, hc, hrc⟩ := hr1.get hu'
    have hc' : arr[j]? = some c := by simpa using hc
    have hrun : (execOp a.eval ⟨dst, .extract (.tmp t) j, ty, pos, after, guard⟩).run P w = .ok (.value c) w := by
     simp only [execOp, Act.eval, harr, Instr.extract, Sem.run_bind, hc', Sem.run_pure, Result.andThen_ok]
    have hk : (cY (vB e t (.tup (vs.set j v.dis2)))).Nodup := by
     simp only [vB, cY, List.map_cons, List.nodup_cons]
     refine ⟨fun hm => ?_, gO (oA e t) h.nodup⟩
     obtain ⟨p, hp, rfl⟩ := List.mem_map.1 hm
     exact rZ hp rfl
    refine ⟨hk, fun p hp => ?_, .inl ⟨c, w, .inl hrun, S, bl, ?_, Ext.refl _ _ _ _ _ _ _⟩⟩
    ·rcases List.mem_cons.1 hp with rfl | hp
     ·exact h.bnd (t, V.tup vs) hm
     ·exact aJ0 h.bnd p hp
    ·have h1 : St lim B F S bl ((V.tup vs, a.tmps.getD t undef) :: eV a (aX e t)) H w := h.st.perm ((wF h.nodup hg).map (fun p : Nat × V => (p.2, a.tmps.getD p.1 undef))).symm
     obtain ⟨m1, m2⟩ := aBl hu' hc
     obtain ⟨n1, n2⟩ := H8 hu' hc
     have e1 : eV a (vB e t (.tup (vs.set j v.dis2))) = (V.tup (vs.set j v.dis2), a.tmps.getD t undef) :: eV a (aX e t) := rfl
     rw [e1]
     refine h1.trade (fun p hp => ?_) (fun t' ht' => ?_) (fun x => ?_)
     ·simp only [List.cons_append, List.mem_cons, List.mem_append, List.mem_singleton, List.not_mem_nil, or_false] at hp
      rcases hp with rfl | hp | rfl
      ·simp only [harr, Rep]
       refine ⟨arr, rfl, hr1.set_dis2 hu', fun x hx => ?_⟩
       rcases List.mem_or_eq_of_mem_set hx with hx | rfl
       ·exact hr2 x hx
       ·exact V.dis2_noVia _
      ·exact h1.rep p (List.mem_cons_of_mem _ hp)
      ·exact hrc
     ·simp only [List.cons_append, aH, dY, harr, List.mem_append, List.append_nil, ht2, aEo] at ht' ⊢
      rcases ht' with ht' | ht' | ht'
      ·exact .inl (m1 t' ht')
      ·exact .inr ht'
      ·exact .inl (n1 t' ht')
     ·have := m2 x
      simp only [List.cons_append, aH, dY, harr, List.append_nil, aS, List.map_append, List.count_append, ht2, aEo] at this ⊢
      omega
   ·cases hs
 | call f xs nw =>
   simp only [step, Option.bind_eq_some_iff] at hs
   obtain ⟨⟨vs, e1⟩, he, hs⟩ := hs
   split at hs
   ·rename_i hc
    obtain ⟨⟨r, H1⟩, hq, e2⟩ := Option.map_eq_some_iff.1 hs
    cases e2
    obtain ⟨g, args, ats, rfl, h1, h2, h3⟩ : ∃ g args ats, op = .call ⟨.value (.func g), args, ats⟩ ∧ f = g ∧ G2 args.toList xs = true ∧ qT P f = true := by
     cases op <;> simp only [okI] at hok <;> try cases hok
     rename_i cl
     obtain ⟨callee, args, ats⟩ := cl
     cases callee with
     | value y =>
       cases y with
       | func g =>
         simp only [okI, Bool.and_eq_true, beq_iff_eq] at hok
         exact ⟨_, _, _, rfl, hok.1.1, hok.1.2, hok.2⟩
       | _ => cases hok
     | _ => cases hok
    subst h1
    obtain ⟨g, k, hl⟩ := aAg h2 he h.nodup hst
    simp only [List.nil_append] at g
    have hrun : (execOp a.eval ⟨dst, .call ⟨.value (.func f), args, ats⟩, ty, pos, after, guard⟩).run P w = .ok (.enter f (args.toList.map a.eval).toArray) w := by
     simp only [execOp, resolve, Sem.run_bind, Act.eval, Deferred.ofValue, Sem.run_pure, Result.andThen_ok, invoke]
     rw [show (#[] ++ args.map a.eval ++ #[] : Array Value) = (args.toList.map a.eval).toArray by first | (simp; done) | (apply Array.ext'; simp)]
     exact wJ h3
    refine ⟨(sub _ k).1, (sub _ k).2, Q8 hT hrun (qI hq).1 (by simpa using hl) g h.room ?_⟩
    simp only [Bool.or_eq_true] at hc
    exact hc.imp id F1
   ·cases hs
 | cav x xs =>
   simp only [step, Option.bind_eq_some_iff] at hs
   obtain ⟨⟨u, e0⟩, he0, hs⟩ := hs
   cases u <;> try cases hs
   rename_i f caps
   simp only [Option.bind_eq_some_iff] at hs
   obtain ⟨⟨vs, e1⟩, he, hs⟩ := hs
   split at hs
   ·rename_i hc
    obtain ⟨⟨r, H1⟩, hq, e2⟩ := Option.map_eq_some_iff.1 hs
    cases e2
    obtain ⟨y, args, ats, rfl, h1, h2⟩ : ∃ y args ats, op = .call ⟨.value y, args, ats⟩ ∧ okX y x = true ∧ G2 args.toList xs = true := by
     cases op <;> simp only [okI] at hok <;> try cases hok
     rename_i cl
     obtain ⟨callee, args, ats⟩ := cl
     cases callee with
     | value y =>
       simp only [okI, Bool.and_eq_true] at hok
       exact ⟨_, _, _, rfl, hok.1, hok.2⟩
     | _ => cases hok
    obtain ⟨g0, k0⟩ := i5 h1 he0 h.nodup hst
    have hf := g0.rep _ (List.mem_append_right _ (List.mem_cons_self ..))
    simp only [Rep] at hf
    obtain ⟨arr, harr, hr1, hr2⟩ := hf
    obtain ⟨g, k, hl⟩ := aAg (us := [(V.fn f caps, a.eval y)]) h2 he (gO k0 h.nodup) (by simpa using g0)
    have hl2 := ((aK _ _).1 hr1).1
    have g' : St lim B F S bl ((vs ++ caps.map V.dis1).zip (args.toList.map a.eval ++ arr.toList) ++ eV a e1) H w := by
     rw [List.zip_append (by simpa using hl)]
     exact g.swapCaps hr1 hr2
    have hrun : (execOp a.eval ⟨dst, .call ⟨.value y, args, ats⟩, ty, pos, after, guard⟩).run P w = .ok (.enter f (args.toList.map a.eval ++ arr.toList).toArray) w := by
     simp only [execOp, resolve, Sem.run_bind, harr, Deferred.ofValue, Sem.run_pure, Result.andThen_ok, invoke]
     rw [show (#[] ++ args.map a.eval ++ arr : Array Value) = (args.toList.map a.eval ++ arr.toList).toArray by simp]
     exact wJ (hT.ok _ _ _ _ _ _ hq).1
    have kk := k.trans k0
    refine ⟨(sub _ kk).1, (sub _ kk).2, Q8 hT hrun hq (by simp [hl, hl2]) g' h.room ?_⟩
    simp only [Bool.or_eq_true] at hc
    exact hc.imp id F1
   ·cases hs
 | cam tbl x xs =>
   simp only [step, Option.bind_eq_some_iff] at hs
   obtain ⟨⟨u, e0⟩, he0, hs⟩ := hs
   cases u <;> try cases hs
   rename_i t u
   simp only at hs
   split at hs
   ·rename_i f hlk
    simp only [Option.bind_eq_some_iff] at hs
    obtain ⟨⟨vs, e1⟩, he, hs⟩ := hs
    split at hs
    ·rename_i hc
     obtain ⟨⟨r, H1⟩, hq, e2⟩ := Option.map_eq_some_iff.1 hs
     cases e2
     obtain ⟨y, name, args, ats, rfl, ⟨h1, h2⟩, h3⟩ : ∃ y name args ats, op = .call ⟨.invoke y name, args, ats⟩ ∧ (okX y x = true ∧ G2 args.toList xs = true) ∧ ∀ p ∈ tbl, G6 P name p.1 p.2 = true := by
      cases op <;> simp only [okI] at hok <;> try cases hok
      rename_i cl
      obtain ⟨callee, args, ats⟩ := cl
      cases callee with
      | invoke y name =>
        simp only [okI, Bool.and_eq_true, List.all_eq_true] at hok
        exact ⟨_, _, _, _, rfl, hok.1, hok.2⟩
      | _ => cases hok
     obtain ⟨g0, k0⟩ := i5 h1 he0 h.nodup hst
     have hf := g0.rep _ (List.mem_append_right _ (List.mem_cons_self ..))
     simp only [Rep] at hf
     obtain ⟨c, harr, hr1⟩ := hf
     have hm : G6 P name t f = true := by
      exact h3 _ (Q9 tbl hlk)
     obtain ⟨g, k, hl⟩ := aAg (us := [(V.ifc t u, a.eval y)]) h2 he (gO k0 h.nodup) (by simpa using g0)
     have g' : St lim B F S bl ((u.dis :: vs).zip (c :: args.toList.map a.eval) ++ eV a e1) H w := by
      have g1 : St lim B F S bl (vs.zip (args.toList.map a.eval) ++ eV a e1) H w := g.subl (by simp)
      have g2 : Rep S bl w u.dis c := by
       have := g.rep (V.ifc t u, a.eval y) (by simp)
       simp only [Rep] at this
       obtain ⟨c', hc', hr'⟩ := this
       rw [harr] at hc'
       cases hc'
       exact hr'.1.dis
      exact g1.add0 g2 (T3 _ _)
     have hrun : (execOp a.eval ⟨dst, .call ⟨.invoke y name, args, ats⟩, ty, pos, after, guard⟩).run P w = .ok (.enter f (c :: args.toList.map a.eval).toArray) w := by
      have e1 : (#[a.eval y] ++ args.map a.eval : Array Value)[0]? = some (.iface t c) := by
       rw [Array.getElem?_append_left (by simp)]; simp [harr]
      have e2 : (#[a.eval y] ++ args.map a.eval : Array Value).extract 1 (#[a.eval y] ++ args.map a.eval : Array Value).size = args.map a.eval := by
       apply Array.ext'; simp [List.take_of_length_le]
      have e3 : (#[c] ++ args.map a.eval : Array Value) = (c :: args.toList.map a.eval).toArray := by first | (simp; done) | (apply Array.ext'; simp)
      simp only [execOp, resolve, Sem.run_bind, Sem.run_pure, Result.andThen_ok, invoke, e1, e2, callMethod, run_program, (aEn (w := w) (v := c) hm).1, e3]
      exact wJ (hT.ok _ _ _ _ _ _ hq).1
     have kk := k.trans k0
     refine ⟨(sub _ kk).1, (sub _ kk).2, Q8 hT hrun hq (by simp [hl]) g' h.room ?_⟩
     simp only [Bool.or_eq_true] at hc
     exact hc.imp id F1
    ·cases hs
   ·cases hs
end
end Go.Abs
namespace Go.Abs
open Go.RowKit (Below)
section
variable {P : Program} {lim : Option Nat} {B : Nat} {F : List Nat} {nt : Nat} {S : Nat → Nat → Prop} {bl : List Nat} {e : aQ} {H : aB} {w : World} {a : Act}
theorem ER.slot (h : ER lim B F nt S bl e H a w) {t : Nat} {v : V} (hv : eget e t = some v) : Rep S bl w v (a.tmps.getD t undef) ∧ t < nt :=
 ⟨h.st.rep (v, a.tmps.getD t undef) (List.mem_map.2 ⟨(t, v), wE hv, rfl⟩), h.bnd (t, v) (wE hv)⟩
theorem ER.bool (h : ER lim B F nt S bl e H a w) {t : Nat} {c : Bool} (hv : eget e t = some (.bool c)) : a.tmps[t]? = some (.bool c) := by
 obtain ⟨h1, h2⟩ := h.slot hv
 have h3 := h1.bool_inv
 have h4 : t < a.tmps.size := by rw [h.size]; exact h2
 simp only [Array.getD_eq_getD_getElem?, Array.getElem?_eq_getElem h4, Option.getD_some] at h3
 rw [Array.getElem?_eq_getElem h4, h3]
theorem aIc {T : Orc} (hT : CallOK P T) {ops : Array Oper} {i : Nat} {o : Oper} {r : eJ} {e1 : aQ} {H1 : aB} (ho : ops[i]? = some o) (hok : aI1 P nt ops o r = true) (hs : lA T lim r e H = some (e1, H1))
 (h : ER lim B F nt S bl e H a w) {Q : Exit → Act → World → Prop} {K : Act → World → Prop}
 (hK : ∀ a' w' S' bl', ER lim B F nt S' bl' e1 H1 a' w' → Ext lim B F S bl H w S' bl' H1 w' → K a' w') : wpOp P ops Q i K a w := by
 obtain ⟨d, g, ins⟩ := r
 simp only [aI1, Bool.and_eq_true, beq_iff_eq] at hok
 obtain ⟨⟨⟨hd, hlt⟩, hg⟩, hi⟩ := hok
 have hlt' : ∀ t, d = some t → t < nt := by rintro t rfl; simpa using hlt
 have act : ∀ {e2 : aQ} {v : V} {H2 : aB}, step T lim ins e H = some (v, e2, H2) → (∀ a' w' S' bl', ER lim B F nt S' bl' (pD e2 d v) H2 a' w' → Ext lim B F S bl H w S' bl' H2 w' → K a' w') → o.wp P a w K Q := by
  intro e2 v H2 hst hk
  obtain ⟨k1, k2, k3⟩ := aL2 hT hi hst h
  refine k3.wp fun c w' hc => ?_
  obtain ⟨S', bl', g1, g2⟩ := hc
  have := ER.put (d := d) k1 k2 h.size h.defers (Nat.le_trans h.room g2.below.size) hlt' g1
  rw [hd]
  exact hk _ _ _ _ this g2
 unfold wpOp
 simp only [ho]
 cases g with
 | none =>
   have hgn : o.guard = none := by
    cases hgo : o.guard with
    | none => rfl
    | some x => rw [hgo] at hg; cases hg
   have hw : Region.wanted o (yielded ops a.tmps) = true := by simp [Region.wanted, hgn]
   rw [if_pos hw]
   obtain ⟨q, hq, e2⟩ := Option.map_eq_some_iff.1 (show (step T lim ins e H).map (fun r => (pD r.2.1 d r.1, r.2.2)) = some (e1, H1) from hs)
   cases e2
   exact .inl (act hq hK)
 | some gw =>
   obtain ⟨t, want⟩ := gw
   cases hgo : o.guard with
   | none => rw [hgo] at hg; cases hg
   | some jw =>
     obtain ⟨j, w2⟩ := jw
     rw [hgo] at hg
     simp only [Bool.and_eq_true, beq_iff_eq] at hg
     obtain ⟨rfl, hj⟩ := hg
     simp only [lA] at hs
     cases hc : eget e t with
     | none => rw [hc] at hs; cases hs
     | some v =>
       rw [hc] at hs
       cases v <;> try cases hs
       case tup.refl vs =>
        have hy : yielded ops a.tmps j = none := by
         obtain ⟨h1, h2⟩ := h.slot hc
         simp only [Rep] at h1
         obtain ⟨arr, h3, _⟩ := h1
         have h4 : t < a.tmps.size := by rw [h.size]; exact h2
         simp only [Array.getD_eq_getD_getElem?, Array.getElem?_eq_getElem h4, Option.getD_some] at h3
         unfold yielded
         simp only [hj, Option.bind_some, Array.getElem?_eq_getElem h4, h3]
        have hw : ¬ Region.wanted o (yielded ops a.tmps) = true := by simp [Region.wanted, hgo, hy]
        rw [if_neg hw, hd]
        exact hK _ _ _ _ (h.skip hlt') (Ext.refl _ _ _ _ _ _ _)
       rename_i c
       simp only at hs
       have hy : yielded ops a.tmps j = some c := by
        unfold yielded
        simp only [hj, Option.bind_some, h.bool hc]
       by_cases hcw : c = w2
       ·rw [if_pos hcw] at hs
        have hw : Region.wanted o (yielded ops a.tmps) = true := by simp [Region.wanted, hgo, hy, hcw]
        rw [if_pos hw]
        obtain ⟨q, hq, e2⟩ := Option.map_eq_some_iff.1 hs
        cases e2
        exact .inl (act hq hK)
       ·rw [if_neg hcw] at hs
        cases hs
        have hw : ¬ Region.wanted o (yielded ops a.tmps) = true := by simp [Region.wanted, hgo, hy, hcw]
        rw [if_neg hw, hd]
        exact hK _ _ _ _ (h.skip hlt') (Ext.refl _ _ _ _ _ _ _)
theorem aF8 {T : Orc} (hT : CallOK P T) {ops : Array Oper} {Q : Exit → Act → World → Prop} : ∀ (os : List Oper) (rs : List eJ) (k : Nat) {e e1 : aQ} {H H1 : aB} {a : Act} {w : World} {S : Nat → Nat → Prop} {bl : List Nat},
 (∀ j, os[j]? = ops[k + j]?) → pG P nt ops os rs = true → lB T lim rs e H = some (e1, H1) → ER lim B F nt S bl e H a w →
 (∀ a' w' S' bl', ER lim B F nt S' bl' e1 H1 a' w' → Ext lim B F S bl H w S' bl' H1 w' → Q .normal a' w') → wpOps P ops Q (List.range' k os.length) a w
 | [], [], k, e, e1, H, H1, a, w, S, bl, _, _, hr, h, hQ => by
   cases hr
   exact hQ _ _ _ _ h (Ext.refl _ _ _ _ _ _ _)
 | [], _ :: _, _, _, _, _, _, _, _, _, _, _, hok, _, _, _ => by simp [pG] at hok
 | _ :: _, [], _, _, _, _, _, _, _, _, _, _, hok, _, _, _ => by simp [pG] at hok
 | o :: os, r :: rs, k, e, e1, H, H1, a, w, S, bl, hos, hok, hr, h, hQ => by
   simp only [pG, Bool.and_eq_true] at hok
   obtain ⟨⟨e2, H2⟩, h1, h2⟩ := Option.bind_eq_some_iff.1 (show (lA T lim r e H).bind (fun q => lB T lim rs q.1 q.2) = some (e1, H1) from hr)
   have ho : ops[k]? = some o := by have := hos 0; simpa using this.symm
   rw [List.length_cons, List.range'_succ, wpOps_cons]
   refine aIc hT ho hok.1 h1 h fun a' w' S' bl' g x => ?_
   exact aF8 hT os rs (k + 1) (fun j => by have := hos (j + 1); rw [List.getElem?_cons_succ] at this; rw [this]; congr 1; omega) hok.2 h2 g
    fun a'' w'' S'' bl'' g' x' => hQ _ _ _ _ g' (x.trans x')
theorem aGz {T : Orc} (hT : CallOK P T) {id : Nat} {ops : Array Oper} {Q : Exit → Act → World → Prop} {rs : List eJ} {e1 : aQ} {H1 : aB}
 (hok : pG P nt ops ops.toList rs = true) (hr : lB T lim rs e H = some (e1, H1)) (h : ER lim B F nt S bl e H a w)
 (hQ : ∀ a' w' S' bl', ER lim B F nt S' bl' e1 H1 a' w' → Ext lim B F S bl H w S' bl' H1 w' → Q .normal a' w') : (Code.region id ops false).wp P Q a w := by
 refine wp_region ?_
 have := aF8 hT ops.toList rs 0 (fun j => by simp) hok hr h hQ
 rwa [Array.length_toList, ← List.range_eq_range'] at this
end
end Go.Abs
