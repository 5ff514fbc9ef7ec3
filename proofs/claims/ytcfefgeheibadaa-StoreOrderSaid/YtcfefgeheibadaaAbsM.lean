/-
  Temporaries: the machine's environment stands for GoSem's; operands; what is at hand while an operation acts.
-/
import Derived.Test.YtcfefgeheibadaaAbsL
import Derived.Calls
namespace Go.Abs
open Go.RowKit (Below)
set_option linter.unusedVariables false
set_option linter.unusedSimpArgs false

section
variable {P : Program} {lim : Option Nat} {B : Nat} {F : List Nat} {S : Nat → Nat → Prop} {bl : List Nat} {vals : List (V × Value)} {H : Heap} {w : World}

theorem vtips_subl {a b : List (V × Value)} (h : a.Sublist b) : (vtips a).Sublist (vtips b) := by
  induction h with
  | slnil => exact .refl _
  | cons p _ ih => simp only [vtips]; exact ih.trans (List.sublist_append_right _ _)
  | cons_cons p _ ih => simp only [vtips]; exact (List.Sublist.refl _).append ih
theorem St.subl {vals' : List (V × Value)} (h : St lim B F S bl vals H w) (k : vals'.Sublist vals) : St lim B F S bl vals' H w :=
  h.sub (fun p hp => k.subset hp) (fun t ht => (vtips_subl k).subset ht) fun x => ((vtips_subl k).map Tp.blk).count_le x

/-! ### What an operation leaves alone -/
theorem St.pin (h : St lim B F S bl vals H w) : St (some H.length) B F S bl vals H w := by
  refine ⟨h.rep, h.len, h.obj, h.nodup, h.tip, h.stab, h.base, fun l e => ?_, h.sep⟩
  cases e
  refine ⟨Nat.le_refl _, fun i cs _ hi => V.rbL_iff.2 fun v hv => ?_, fun i j b _ hj _ hbj => by
    have := (List.getElem?_eq_some_iff.1 hbj).1; have := h.len; omega⟩
  obtain ⟨j, hj⟩ := List.getElem?_of_mem hv
  have hlt := (List.getElem?_eq_some_iff.1 hi).1
  obtain ⟨b, hb⟩ := h.blk hlt
  obtain ⟨_, c, _, hr⟩ := (h.obj i cs b hi hb).rep j v hj
  exact hr.rb (by rw [← h.len]; exact Nat.le_refl _) v c
theorem St.unpin {S' : Nat → Nat → Prop} {bl' : List Nat} {vals' : List (V × Value)} {H' : Heap} {w' : World} (h : St lim B F S bl vals H w) (k : St (some H.length) B F S' bl' vals' H' w') (x : Ext (some H.length) B F S bl H w S' bl' H' w') :
    St lim B F S' bl' vals' H' w' ∧ Ext lim B F S bl H w S' bl' H' w' := by
  refine ⟨⟨k.rep, k.len, k.obj, k.nodup, k.tip, k.stab, k.base, fun l e => ?_, k.sep⟩, ⟨x.keeps, x.frame, x.below, x.bls, x.len, fun l e => ?_⟩⟩
  · obtain ⟨h1, h2, h3⟩ := h.refs l e
    obtain ⟨k1, k2, k3⟩ := k.refs _ rfl
    refine ⟨by omega, fun i cs hil hi => ?_, fun i j b hi hj hbi hbj => ?_⟩
    rotate_left
    · have hlen := h.len
      have old : ∀ n : Nat, n < bl.length → bl'[n]? = some b → bl[n]? = some b := fun n hn hb => by
        have h4 : bl[n]? = some bl[n] := List.getElem?_eq_getElem hn
        have := x.bls n _ h4
        rw [hb] at this; rw [h4]; exact this.symm
      by_cases hjl : j < H.length
      · exact h3 i j b hi hj (old i (by omega) hbi) (old j (by omega) hbj)
      · exact k3 i j b (by omega) (by omega) hbi hbj
    refine h2 i cs hil ?_
    have := (x.objs _ rfl).2
    have e1 : (H'.take H.length)[i]? = H'[i]? := by rw [List.getElem?_take, if_pos (by omega)]
    rw [this, List.take_length] at e1
    rw [e1]; exact hi
  · obtain ⟨h1, _⟩ := h.refs l e
    obtain ⟨x1, x2⟩ := x.objs _ rfl
    refine ⟨fun i b hi hb => x1 i b (by omega) hb, ?_⟩
    have := congrArg (List.take l) x2
    simpa [List.take_take, Nat.min_eq_left h1] using this
theorem Ext.objs_all {S' : Nat → Nat → Prop} {bl' : List Nat} {H' : Heap} {w' : World} (h : St lim B F S bl vals H w) (x : Ext (some H.length) B F S bl H w S' bl' H' w') : ∀ b ∈ bl, w'.heap[b]? = w.heap[b]? := by
  intro b hb
  obtain ⟨i, hi⟩ := List.getElem?_of_mem hb
  exact (x.objs _ rfl).1 i b (by have := (List.getElem?_eq_some_iff.1 hi).1; rw [h.len]; exact this) hi

/-- Those that stood by stand by still. -/
theorem St.regain {S' : Nat → Nat → Prop} {bl' : List Nat} {zs rest us : List (V × Value)} {H' : Heap} {w' : World} (h : St lim B F S bl (zs ++ rest) H w) (g : St lim B (F ++ blks (vtips rest)) S' bl' us H' w')
    (x : Ext lim B (F ++ blks (vtips rest)) S bl H w S' bl' H' w') (q : (∀ p ∈ rest, p.1.noVia = true) ∨ ∀ b ∈ bl, w'.heap[b]? = w.heap[b]?) : St lim B F S' bl' (rest ++ us) H' w' ∧ Ext lim B F S bl H w S' bl' H' w' := by
  refine ⟨g.add (fun p hp => ?_) (fun t ht => ?_), x.less fun b hb => List.mem_append_left _ hb⟩
  · have hr := h.rep p (List.mem_append_right _ hp)
    rcases q with q | q
    · exact Rep.mono x.keeps x.bls _ _ (q p hp) hr
    · exact Rep.mono_via x.keeps x.bls (fun i b o e => cell_same (q b (List.mem_of_getElem? e)) o) _ _ hr
  · have hb : t.blk ∈ F ++ blks (vtips rest) := List.mem_append_right _ (List.mem_map.2 ⟨t, ht, rfl⟩)
    exact (h.tip t (.inl (by rw [vtips_append]; exact List.mem_append_right _ ht))).1.mono (x.frame _ hb).1 (x.frame _ hb).2

theorem apply_lim {o : O} (h : o.writes = false) (lim lim' : Option Nat) (vs : List V) (H : Heap) : apply lim o vs H = apply lim' o vs H := by
  cases o <;> first | rfl | cases h

/-- An operation, with what stands by. -/
theorem act_op {dst : Option Tmp} {op : Op} {ty : TypeId} {pos : String} {after : Array Edge} {guard : Option (Nat × Bool)} {a : O} {vs : List V} {r : V} {H' : Heap} {rest : List (V × Value)} (ρ : Operand → Value)
    (hok : okO P op a = true) (hl : vs.length = op.operands.toList.length) (h : St lim B F S bl (vs.zip (op.operands.toList.map ρ) ++ rest) H w) (hB : B ≤ w.heap.size) (hr : apply lim a vs H = some (r, H'))
    (hc : a.writes = false ∨ ∀ p ∈ rest, p.1.noVia = true) :
    ∃ c w' S' bl', ((execOp ρ ⟨dst, op, ty, pos, after, guard⟩).run P w = .ok (.value c) w' ∨ ((execOp ρ ⟨dst, op, ty, pos, after, guard⟩).run P w = .ok .skip w' ∧ c = undef)) ∧
      St lim B F S' bl' (rest ++ [(r, c)]) H' w' ∧ Ext lim B F S bl H w S' bl' H' w' := by
  have h0 : St lim B (F ++ blks (vtips rest)) S bl (vs.zip (op.operands.toList.map ρ)) H w := St.rem (h.perm List.perm_append_comm)
  by_cases hw : a.writes = false
  · rw [apply_lim hw lim (some H.length)] at hr
    obtain ⟨c, w', S', bl', e, g, x⟩ := apply_sound (dst := dst) (ty := ty) (pos := pos) (after := after) (guard := guard) ρ hok hl h0.pin hB hr
    obtain ⟨g', x'⟩ := h0.unpin g x
    obtain ⟨g'', x''⟩ := h.regain g' x' (.inr (x.objs_all h0))
    exact ⟨c, w', S', bl', e, g'', x''⟩
  · obtain ⟨c, w', S', bl', e, g, x⟩ := apply_sound (dst := dst) (ty := ty) (pos := pos) (after := after) (guard := guard) ρ hok hl h0 hB hr
    obtain ⟨g'', x''⟩ := h.regain g x (.inl (hc.resolve_left hw))
    exact ⟨c, w', S', bl', e, g'', x''⟩
end

/-! ### Environments -/
def eV (a : Act) (e : Env) : List (V × Value) := e.map fun p => (p.2, a.tmps.getD p.1 undef)
abbrev keys (e : Env) : List Nat := e.map (·.1)

theorem eget_mem : ∀ {e : Env} {t : Nat} {v : V}, eget e t = some v → (t, v) ∈ e
  | [], _, _, h => by cases h
  | (s, u) :: e, t, v, h => by
    simp only [eget] at h
    split at h
    · rename_i hs; cases h; subst hs; exact List.mem_cons_self ..
    · exact List.mem_cons_of_mem _ (eget_mem h)
theorem edel_subl : ∀ (e : Env) (t : Nat), (edel e t).Sublist e
  | [], _ => .refl _
  | (s, u) :: e, t => by
    simp only [edel]
    split
    · exact (edel_subl e t).cons _
    · exact (edel_subl e t).cons_cons _
theorem edel_keys : ∀ {e : Env} {t : Nat} {p : Nat × V}, p ∈ edel e t → p.1 ≠ t
  | [], _, _, h => by cases h
  | (s, u) :: e, t, p, h => by
    simp only [edel] at h
    split at h
    · exact edel_keys h
    · rcases List.mem_cons.1 h with rfl | h
      · assumption
      · exact edel_keys h
theorem edel_none : ∀ {e : Env} {t : Nat}, t ∉ keys e → edel e t = e
  | [], _, _ => rfl
  | (s, u) :: e, t, h => by
    simp only [keys, List.map_cons, List.mem_cons, not_or] at h
    simp only [edel]
    rw [if_neg (fun x => h.1 x.symm), edel_none h.2]
theorem edel_perm : ∀ {e : Env} {t : Nat} {v : V}, (keys e).Nodup → eget e t = some v → e.Perm ((t, v) :: edel e t)
  | [], _, _, _, h => by cases h
  | (s, u) :: e, t, v, hn, h => by
    simp only [keys, List.map_cons, List.nodup_cons] at hn
    simp only [eget] at h
    simp only [edel]
    split at h
    · rename_i hs
      cases h
      subst hs
      rw [if_pos rfl, edel_none hn.1]
    · rename_i hs
      rw [if_neg hs]
      exact ((edel_perm hn.2 h).cons _).trans (.swap ..)
theorem nodup_subl {e e' : Env} (h : e'.Sublist e) (hn : (keys e).Nodup) : (keys e').Nodup := hn.sublist (h.map _)
theorem eV_subl {a : Act} {e e' : Env} (h : e'.Sublist e) : (eV a e').Sublist (eV a e) := h.map _
theorem calm_iff : ∀ {e : Env}, calm e = true ↔ ∀ p ∈ e, p.2.noVia = true
  | [] => by simp [calm]
  | (s, v) :: e => by simp only [calm, Bool.and_eq_true, calm_iff (e := e), List.forall_mem_cons]
theorem eV_noVia {a : Act} {e : Env} (h : calm e = true) : ∀ p ∈ eV a e, p.1.noVia = true := by
  intro p hp
  obtain ⟨q, hq, rfl⟩ := List.mem_map.1 hp
  exact calm_iff.1 h q hq

section
variable {P : Program} {lim : Option Nat} {B : Nat} {F : List Nat} {S : Nat → Nat → Prop} {bl : List Nat} {us : List (V × Value)} {H : Heap} {w : World} {a : Act}

/-- An operand. -/
theorem evX_st {o : Operand} {x : X} {e e' : Env} {v : V} (hok : okX o x = true) (he : evX x e = some (v, e')) (hn : (keys e).Nodup) (h : St lim B F S bl (us ++ eV a e) H w) :
    St lim B F S bl (us ++ (v, a.eval o) :: eV a e') H w ∧ e'.Sublist e := by
  cases x with
  | t n =>
    obtain rfl : o = .tmp n := by
      cases o <;> simp [okX] at hok
      rw [hok]
    obtain ⟨u, hu, e1⟩ := Option.map_eq_some_iff.1 (show (eget e n).map (fun x => (x.dis, e)) = some (v, e') from he)
    cases e1
    have hm : (u, a.tmps.getD n undef) ∈ eV a e := List.mem_map.2 ⟨(n, u), eget_mem hu, rfl⟩
    refine ⟨?_, .refl _⟩
    exact (St.copy (p := (u, a.tmps.getD n undef)) h (List.mem_append_right _ hm) (v := u.dis) (fun _ _ _ hr => hr.dis) (tips_dis _ _)).perm (by
      exact (List.perm_middle (l₁ := us) (a := (u.dis, a.eval (.tmp n))) (l₂ := eV a e)))
  | m n =>
    obtain rfl : o = .tmp n := by
      cases o <;> simp [okX] at hok
      rw [hok]
    obtain ⟨u, hu, e1⟩ := Option.map_eq_some_iff.1 (show (eget e n).map (fun x => (x, edel e n)) = some (v, e') from he)
    cases e1
    refine ⟨h.perm ?_, edel_subl _ _⟩
    exact .append_left us ((edel_perm hn hu).map (fun p : Nat × V => (p.2, a.tmps.getD p.1 undef))).symm
  | k u =>
    obtain ⟨rfl, rfl⟩ : u = v ∧ e = e' := by simpa [evX] using he
    cases o with
    | const c =>
      simp only [okX] at hok
      exact ⟨(h.add0 (v := u) (c := c) (okV_rep u c hok) (okV_tips u c hok)).perm List.perm_middle, .refl _⟩
    | func f =>
      cases u <;> try (simp [okX] at hok; done)
      rename_i g l
      simp only [okX, Bool.and_eq_true, beq_iff_eq, List.isEmpty_iff] at hok
      obtain ⟨rfl, rfl⟩ := hok
      exact ⟨(h.add0 (v := .fn f []) (c := .func (.func f) #[] #[]) (by simp only [Rep]; exact ⟨#[], rfl, by simp [RepL], by simp⟩) rfl).perm List.perm_middle, .refl _⟩
    | _ => simp [okX] at hok
theorem evs_st : ∀ {os : List Operand} {xs : List X} {us : List (V × Value)} {e e' : Env} {vs : List V}, okXs os xs = true → evs xs e = some (vs, e') → (keys e).Nodup → St lim B F S bl (us ++ eV a e) H w →
    St lim B F S bl (us ++ vs.zip (os.map a.eval) ++ eV a e') H w ∧ e'.Sublist e ∧ vs.length = os.length
  | [], [], us, e, e', vs, hok, he, hn, h => by
    cases (show some ([], e) = some (vs, e') from he)
    exact ⟨by simpa using h, .refl _, rfl⟩
  | [], _ :: _, _, _, _, _, hok, _, _, _ => by simp [okXs] at hok
  | _ :: _, [], _, _, _, _, hok, _, _, _ => by simp [okXs] at hok
  | o :: os, x :: xs, us, e, e', vs, hok, he, hn, h => by
    simp only [okXs, Bool.and_eq_true] at hok
    simp only [evs, Option.bind_eq_some_iff, Option.map_eq_some_iff] at he
    obtain ⟨⟨v, e1⟩, h1, ⟨vs', e2⟩, h2, h3⟩ := he
    cases h3
    obtain ⟨g1, g2⟩ := evX_st hok.1 h1 hn h
    obtain ⟨k1, k2, k3⟩ := evs_st (us := us ++ [(v, a.eval o)]) hok.2 h2 (nodup_subl g2 hn) (by simpa using g1)
    exact ⟨by simpa using k1, k2.trans g2, by simp [k3]⟩
end

/-- The machine's environment and heap stand for GoSem's temporaries and world. -/
structure ER (lim : Option Nat) (B : Nat) (F : List Nat) (nt : Nat) (S : Nat → Nat → Prop) (bl : List Nat) (e : Env) (H : Heap) (a : Act) (w : World) : Prop where
  nodup : (keys e).Nodup
  bnd : ∀ p ∈ e, p.1 < nt
  st : St lim B F S bl (eV a e) H w
  size : a.tmps.size = nt
  defers : a.defers = []
  room : B ≤ w.heap.size

section
variable {P : Program} {lim : Option Nat} {B : Nat} {F : List Nat} {nt : Nat} {S : Nat → Nat → Prop} {bl : List Nat} {us : List (V × Value)} {e : Env} {H : Heap} {w : World} {a : Act}

theorem eV_put {t : Nat} {c : Value} {e : Env} (h : ∀ p ∈ e, p.1 ≠ t) : eV (a.put (some t) c) e = eV a e := by
  refine List.map_congr_left fun p hp => ?_
  simp only [Act.put, Array.getD_eq_getD_getElem?, Array.getElem?_setIfInBounds_ne (Ne.symm (h p hp))]
theorem ER.sub {e' : Env} (h : ER lim B F nt S bl e H a w) (k : e'.Sublist e) : ER lim B F nt S bl e' H a w :=
  ⟨nodup_subl k h.nodup, fun p hp => h.bnd p (k.subset hp), h.st.subl (eV_subl k), h.size, h.defers, h.room⟩
theorem edel_lt {t : Nat} {e : Env} {nt : Nat} (h : ∀ p ∈ e, p.1 < nt) : ∀ p ∈ edel e t, p.1 < nt := fun p hp => h p ((edel_subl e t).subset hp)
/-- A result is laid down. -/
theorem ER.put {d : Option Nat} {v : V} {c : Value} (hn : (keys e).Nodup) (hb : ∀ p ∈ e, p.1 < nt) (hs : a.tmps.size = nt) (hd : a.defers = []) (hB : B ≤ w.heap.size) (hlt : ∀ t, d = some t → t < nt)
    (h : St lim B F S bl (eV a e ++ [(v, c)]) H w) : ER lim B F nt S bl (putD e d v) H (a.put d c) w := by
  cases d with
  | none => exact ⟨hn, hb, h.subl (List.sublist_append_left _ _), hs, hd, hB⟩
  | some t =>
    have ht := hlt t rfl
    refine ⟨?_, ?_, ?_, by simp [Act.put, hs], hd, hB⟩
    · simp only [putD, eput, keys, List.map_cons, List.nodup_cons]
      refine ⟨fun hm => ?_, nodup_subl (edel_subl e t) hn⟩
      obtain ⟨p, hp, rfl⟩ := List.mem_map.1 hm
      exact edel_keys hp rfl
    · intro p hp
      rcases List.mem_cons.1 hp with rfl | hp
      · exact ht
      · exact edel_lt hb p hp
    · have e1 : eV (a.put (some t) c) (eput e t v) = (v, c) :: eV a (edel e t) := by
        simp only [eput]
        show (v, (a.put (some t) c).tmps.getD t undef) :: eV (a.put (some t) c) (edel e t) = _
        rw [eV_put fun p hp => edel_keys hp]
        congr 2
        simp [Act.put, Array.getD_eq_getD_getElem?, hs, ht]
      rw [show putD e (some t) v = eput e t v from rfl, e1]
      exact (h.perm (vals' := (v, c) :: eV a e) (List.perm_append_singleton _ _).symm).subl ((eV_subl (edel_subl e t)).cons_cons _)
theorem ER.skip {d : Option Nat} (hlt : ∀ t, d = some t → t < nt) (h : ER lim B F nt S bl e H a w) : ER lim B F nt S bl (delD e d) H (a.put d undef) w :=
  ER.put h.nodup h.bnd h.size h.defers h.room hlt ((h.st.add0 (v := .tup []) (c := undef) (by simp only [Rep, undef]; exact ⟨#[], rfl, by simp [RepL], by simp⟩) rfl).perm (List.perm_append_singleton _ _))
end
end Go.Abs
