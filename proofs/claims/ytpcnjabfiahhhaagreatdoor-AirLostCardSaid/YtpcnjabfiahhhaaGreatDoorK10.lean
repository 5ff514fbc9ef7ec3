/- A part of the proof of RowAirFits, RowAirHeard, RowAirOrder, RowAirLost: lemmas alone, without conditions. -/
import Derived.Test.YtpcnjabfiahhhaaGreatDoorK9
set_option linter.all false
namespace Go.Abs
def EEq (e f : aQ) : Prop := ∀ t, eget e t = eget f t
theorem EEq.refl (e : aQ) : EEq e e := fun _ => rfl
theorem EEq.symm {e f : aQ} (h : EEq e f) : EEq f e := fun t => (h t).symm
theorem EEq.trans {e f g : aQ} (h : EEq e f) (k : EEq f g) : EEq e g := fun t => (h t).trans (k t)
theorem hJ : ∀ (e : aQ) (t s : Nat), eget (aX e t) s = if s = t then none else eget e s
 | [], t, s => by simp [aX, eget]
 | (x, v) :: e, t, s => by
   simp only [aX]
   by_cases hx : x = t
   ·subst hx
    rw [if_pos rfl, hJ e x s]
    by_cases hs : s = x
    ·rw [if_pos hs, if_pos hs]
    ·rw [if_neg hs, if_neg hs]; simp only [eget]; rw [if_neg (Ne.symm hs)]
   ·rw [if_neg hx]
    simp only [eget]
    by_cases hxs : x = s
    ·subst hxs; rw [if_pos rfl, if_neg hx, if_pos rfl]
    ·rw [if_neg hxs, hJ e t s]
     by_cases hs : s = t
     ·rw [if_pos hs, if_pos hs]
     ·rw [if_neg hs, if_neg hs, if_neg hxs]
theorem vW (e : aQ) (t : Nat) (v : V) (s : Nat) : eget (vB e t v) s = if s = t then some v else eget e s := by
 unfold vB
 simp only [eget]
 by_cases hs : t = s
 ·subst hs; rw [if_pos rfl, if_pos rfl]
 ·rw [if_neg hs, if_neg (Ne.symm hs), hJ, if_neg (Ne.symm hs)]
theorem aCl : ∀ {e : aQ} {t : Nat}, eget e t = none ↔ t ∉ cY e
 | [], t => by simp [eget]
 | (x, v) :: e, t => by
   simp only [eget, cY, List.map_cons, List.mem_cons, not_or]
   by_cases hx : x = t
   ·subst hx; simp
   ·rw [if_neg hx, aCl (e := e)]
    exact ⟨fun h => ⟨Ne.symm hx, h⟩, fun h => h.2⟩
theorem M0 : ∀ {e : aQ} {t : Nat} {v : V}, (cY e).Nodup → (t, v) ∈ e → eget e t = some v
 | [], _, _, _, h => by cases h
 | (x, u) :: e, t, v, hn, h => by
   simp only [cY, List.map_cons, List.nodup_cons] at hn
   simp only [eget]
   rcases List.mem_cons.1 h with h | h
   ·cases h; rw [if_pos rfl]
   ·rw [if_neg, M0 hn.2 h]
    rintro rfl
    exact hn.1 (List.mem_map.2 ⟨(x, v), h, rfl⟩)
theorem xO {e : aQ} (t : Nat) (hn : (cY e).Nodup) : (cY (aX e t)).Nodup := gO (oA e t) hn
theorem Y7 {e : aQ} (t : Nat) (v : V) (hn : (cY e).Nodup) : (cY (vB e t v)).Nodup := by
 simp only [vB, cY, List.map_cons, List.nodup_cons]
 refine ⟨fun hm => ?_, xO t hn⟩
 obtain ⟨p, hp, rfl⟩ := List.mem_map.1 hm
 exact rZ hp rfl
theorem M1 : ∀ {e f : aQ}, (cY e).Nodup → (cY f).Nodup → EEq e f → e.Perm f
 | [], f, _, _, h => by
   cases f with
   | nil => exact .refl _
   | cons p f =>
     have := h p.1
     simp [eget] at this
 | (t, v) :: e, f, he, hf, h => by
   have h1 : eget f t = some v := by rw [← h t]; simp [eget]
   refine List.Perm.trans ?_ (wF hf h1).symm
   refine .cons _ (M1 ?_ (xO t hf) fun s => ?_)
   ·simp only [cY, List.map_cons, List.nodup_cons] at he; exact he.2
   ·simp only [cY, List.map_cons, List.nodup_cons] at he
    rw [hJ]
    by_cases hs : s = t
    ·subst hs; rw [if_pos rfl]; exact aCl.2 he.1
    ·rw [if_neg hs, ← h s]; simp only [eget]; rw [if_neg (Ne.symm hs)]
section
variable {P : Program} {lim : Option Nat} {B : Nat} {F : List Nat} {nt : Nat} {S : Nat → Nat → Prop} {bl : List Nat} {e f : aQ} {H : aB} {w : World} {a : Act}
theorem ER.perm (h : ER lim B F nt S bl e H a w) (hp : f.Perm e) : ER lim B F nt S bl f H a w :=
 ⟨((hp.map _).nodup_iff).2 h.nodup, fun p hm => h.bnd p (hp.mem_iff.1 hm), h.st.perm (hp.map _), h.size, h.defers, h.room⟩
theorem ER.eeq (h : ER lim B F nt S bl e H a w) (hf : (cY f).Nodup) (k : EEq e f) : ER lim B F nt S bl f H a w := h.perm (M1 hf h.nodup k.symm)
end
def Loc {α : Type} (A : aQ → Option (α × aQ)) (R W : List Nat) : Prop :=
 ∀ e v e', A e = some (v, e') → (∀ t, t ∉ W → eget e' t = eget e t) ∧
  ∀ f, (∀ t ∈ R, eget f t = eget e t) → ∃ f', A f = some (v, f') ∧ (∀ t, t ∉ W → eget f' t = eget f t) ∧ ∀ t ∈ W, eget f' t = eget e' t
theorem C3 (x : X) : Loc (eI x) (xr x) (xw x) := by
 intro e v e' h
 cases x with
 | t n =>
   obtain ⟨u, hu, e1⟩ := Option.map_eq_some_iff.1 (show (eget e n).map (fun x => (x.dis, e)) = some (v, e') from h)
   cases e1
   refine ⟨fun _ _ => rfl, fun f hf => ⟨f, ?_, fun _ _ => rfl, fun t ht => by simp [xw] at ht⟩⟩
   simp only [eI, hf n (by simp [xr]), hu, Option.map_some]
 | m n =>
   obtain ⟨u, hu, e1⟩ := Option.map_eq_some_iff.1 (show (eget e n).map (fun x => (x, aX e n)) = some (v, e') from h)
   cases e1
   refine ⟨fun t ht => by rw [hJ, if_neg]; simpa [xw] using ht, fun f hf => ⟨aX f n, ?_, fun t ht => by rw [hJ, if_neg]; simpa [xw] using ht, fun t ht => ?_⟩⟩
   ·simp only [eI, hf n (by simp [xr]), hu, Option.map_some]
   ·have : t = n := by simpa [xw] using ht
    subst this
    rw [hJ, hJ, if_pos rfl, if_pos rfl]
 | k u =>
   obtain ⟨rfl, rfl⟩ : u = v ∧ e = e' := by simpa [eI] using h
   exact ⟨fun _ _ => rfl, fun f hf => ⟨f, rfl, fun _ _ => rfl, fun t ht => by simp [xw] at ht⟩⟩
theorem C4 : ∀ xs : List X, Loc (dB xs) (xs.flatMap xr) (xs.flatMap xw)
 | [] => by
   intro e v e' h
   obtain ⟨rfl, rfl⟩ : [] = v ∧ e = e' := by simpa [dB] using h
   exact ⟨fun _ _ => rfl, fun f hf => ⟨f, rfl, fun _ _ => rfl, fun t ht => by simp at ht⟩⟩
 | x :: xs => by
   intro e v e' h
   simp only [dB, Option.bind_eq_some_iff, Option.map_eq_some_iff] at h
   obtain ⟨⟨u, e1⟩, h1, ⟨us, e2⟩, h2, h3⟩ := h
   cases h3
   obtain ⟨a1, a2⟩ := C3 x e u e1 h1
   obtain ⟨b1, b2⟩ := C4 xs e1 us e2 h2
   simp only [List.flatMap_cons, List.mem_append, not_or]
   refine ⟨fun t ht => (b1 t ht.2).trans (a1 t ht.1), fun f hf => ?_⟩
   obtain ⟨f1, c1, c2, c3⟩ := a2 f fun t ht => hf t (.inl ht)
   obtain ⟨f2, d1, d2, d3⟩ := b2 f1 fun t ht => by
    by_cases hw : t ∈ xw x
    ·exact c3 t hw
    ·rw [c2 t hw, a1 t hw]; exact hf t (.inr ht)
   refine ⟨f2, by simp only [dB, c1, Option.bind_some, d1, Option.map_some], fun t ht => (d2 t ht.2).trans (c2 t ht.1), fun t ht => ?_⟩
   by_cases hw : t ∈ xs.flatMap xw
   ·exact d3 t hw
   ·rw [d2 t hw, b1 t hw]
    exact c3 t (ht.resolve_right hw)
theorem m6 {x : X} {e e' : aQ} {v : V} (h : eI x e = some (v, e')) (hn : (cY e).Nodup) : (cY e').Nodup := by
 cases x with
 | t n => obtain ⟨u, _, e1⟩ := Option.map_eq_some_iff.1 (show (eget e n).map (fun x => (x.dis, e)) = some (v, e') from h); cases e1; exact hn
 | m n => obtain ⟨u, _, e1⟩ := Option.map_eq_some_iff.1 (show (eget e n).map (fun x => (x, aX e n)) = some (v, e') from h); cases e1; exact xO _ hn
 | k u => obtain ⟨rfl, rfl⟩ : u = v ∧ e = e' := by simpa [eI] using h
          exact hn
theorem fE : ∀ {xs : List X} {e e' : aQ} {vs : List V}, dB xs e = some (vs, e') → (cY e).Nodup → (cY e').Nodup
 | [], e, e', vs, h, hn => by
   obtain ⟨rfl, rfl⟩ : [] = vs ∧ e = e' := by simpa [dB] using h
   exact hn
 | x :: xs, e, e', vs, h, hn => by
   simp only [dB, Option.bind_eq_some_iff, Option.map_eq_some_iff] at h
   obtain ⟨⟨u, e1⟩, h1, ⟨us, e2⟩, h2, h3⟩ := h
   cases h3
   exact fE h2 (m6 h1 hn)
def Y8 (f e : aQ) : Prop := ∀ t v, eget f t = some v → v.noVia = true ∨ eget e t = some v
theorem C5 {e : aQ} (hn : (cY e).Nodup) : gK e = true ↔ ∀ t v, eget e t = some v → v.noVia = true :=
 aAf.trans ⟨fun h t v hv => h _ (wE hv), fun h p hp => h p.1 p.2 (M0 hn hp)⟩
theorem C6 {e e1 f f1 : aQ} {W : List Nat} (hf : (cY f1).Nodup) (he : ∀ t, t ∉ W → eget e1 t = eget e t) (k1 : ∀ t, t ∉ W → eget f1 t = eget f t) (k2 : ∀ t ∈ W, eget f1 t = eget e1 t)
 (hs : Y8 f e) (hc : gK e1 = true) (hn : (cY e1).Nodup) : gK f1 = true := by
 refine (C5 hf).2 fun t v hv => ?_
 by_cases hw : t ∈ W
 ·rw [k2 t hw] at hv
  exact (C5 hn).1 hc t v hv
 ·rw [k1 t hw] at hv
  rcases hs t v hv with h | h
  ·exact h
  ·rw [← he t hw] at h
   exact (C5 hn).1 hc t v h
def chk (T : Orc) : I → Bool
 | .op o _ => o.writes
 | .call f _ _ => !T.pu f
 | .cav .. | .cam .. => true
 | _ => false
structure StepLoc (T : Orc) (s : Option Nat) (i : I) (e : aQ) (H : aB) (v : V) (e' : aQ) (H' : aB) : Prop where
 nodup : (cY e').Nodup
 out : ∀ t, t ∉ iW i → eget e' t = eget e t
 same : ∀ f, (cY f).Nodup → (∀ t ∈ iR i, eget f t = eget e t) → (chk T i = true → Y8 f e) → ∃ f', step T s i f H = some (v, f', H') ∧ (∀ t, t ∉ iW i → eget f' t = eget f t) ∧ ∀ t ∈ iW i, eget f' t = eget e' t
theorem xP (x : X) : ∀ t, t ∈ xw x → t ∈ xr x := by cases x <;> simp [xw, xr]
theorem aNd {T : Orc} {s : Option Nat} {i : I} {e e' : aQ} {H H' : aB} {v : V} (h : step T s i e H = some (v, e', H')) (hn : (cY e).Nodup) : StepLoc T s i e H v e' H' := by
 cases i with
 | mv x =>
   obtain ⟨⟨u, e1⟩, h1, h2⟩ := Option.map_eq_some_iff.1 (show (eI x e).map (fun r => (r.1, r.2, H)) = some (v, e', H') from h)
   cases h2
   obtain ⟨a1, a2⟩ := C3 x e u e1 h1
   refine ⟨m6 h1 hn, a1, fun f hf hr _ => ?_⟩
   obtain ⟨f1, c1, c2, c3⟩ := a2 f hr
   exact ⟨f1, by simp only [step, c1, Option.map_some], c2, c3⟩
 | op o xs =>
   simp only [step, Option.bind_eq_some_iff] at h
   obtain ⟨⟨vs, e1⟩, h1, h⟩ := h
   split at h
   ·rename_i hc
    obtain ⟨⟨q, K⟩, h2, h3⟩ := Option.map_eq_some_iff.1 h
    cases h3
    obtain ⟨a1, a2⟩ := C4 xs e vs e1 h1
    refine ⟨fE h1 hn, a1, fun f hf hr hv => ?_⟩
    obtain ⟨f1, c1, c2, c3⟩ := a2 f hr
    have hf1 := fE c1 hf
    refine ⟨f1, ?_, c2, c3⟩
    simp only [step, c1, Option.bind_some]
    rw [if_pos, h2]
    ·rfl
    ·cases ho : o.writes with
     | false => simp
     | true =>
       rw [ho] at hc
       have := C6 hf1 a1 c2 c3 (hv ho) (by simpa using hc) (fE h1 hn)
       simp [this]
   ·cases h
 | pick c x y =>
   simp only [step, Option.bind_eq_some_iff] at h
   obtain ⟨⟨u, e1⟩, h1, h⟩ := h
   cases u <;> try cases h
   rename_i b
   obtain ⟨⟨u, e2⟩, h2, h3⟩ := Option.map_eq_some_iff.1 h
   cases h3
   obtain ⟨a1, a2⟩ := C3 c e _ e1 h1
   obtain ⟨b1, b2⟩ := C3 (if b then x else y) e1 u e2 h2
   have hw : ∀ t, t ∈ xw (if b then x else y) → t ∈ xw x ++ xw y := by intro t ht; cases b <;> simp_all
   have hr' : ∀ t, t ∈ xr (if b then x else y) → t ∈ xr x ++ xr y := by intro t ht; cases b <;> simp_all
   simp only [List.mem_append] at hw hr'
   refine ⟨m6 h2 (m6 h1 hn), fun t ht => ?_, fun f hf hr _ => ?_⟩
   ·simp only [iW, List.mem_append, not_or] at ht
    exact (b1 t fun k => (hw t k).elim ht.1.2 ht.2).trans (a1 t ht.1.1)
   ·simp only [iR, List.mem_append] at hr
    obtain ⟨f1, c1, c2, c3⟩ := a2 f fun t ht => hr t (.inl (.inl ht))
    have hr1 : ∀ t, (t ∈ xr x ∨ t ∈ xr y) → eget f1 t = eget e1 t := fun t ht => by
     by_cases hw1 : t ∈ xw c
     ·exact c3 t hw1
     ·rw [c2 t hw1, a1 t hw1]; exact hr t (ht.elim (fun k => .inl (.inr k)) .inr)
    obtain ⟨f2, d1, d2, d3⟩ := b2 f1 fun t ht => hr1 t (hr' t ht)
    refine ⟨f2, ?_, fun t ht => ?_, fun t ht => ?_⟩
    ·simp only [step, c1, Option.bind_some]
     rw [d1]; rfl
    ·simp only [iW, List.mem_append, not_or] at ht
     exact (d2 t fun k => (hw t k).elim ht.1.2 ht.2).trans (c2 t ht.1.1)
    ·simp only [iW, List.mem_append] at ht
     by_cases k : t ∈ xw (if b then x else y)
     ·exact d3 t k
     ·rw [d2 t k, b1 t k]
      rcases ht with (ht | ht) | ht
      ·exact c3 t ht
      ·exact hr1 t (.inl (xP x t ht))
      ·exact hr1 t (.inr (xP y t ht))
 | exm j t =>
   simp only [step] at h
   split at h
   ·rename_i vs hg
    obtain ⟨u, hu, e1⟩ := Option.map_eq_some_iff.1 h
    cases e1
    refine ⟨Y7 _ _ hn, fun x hx => by rw [vW, if_neg]; simpa [iW] using hx, fun f hf hr _ => ?_⟩
    refine ⟨vB f t (.tup (vs.set j v.dis2)), ?_, fun x hx => by rw [vW, if_neg]; simpa [iW] using hx, fun x hx => ?_⟩
    ·simp only [step, hr t (by simp [iR]), hg, hu, Option.map_some]
    ·have : x = t := by simpa [iW] using hx
     subst this
     rw [vW, vW, if_pos rfl, if_pos rfl]
   ·cases h
 | call g xs nw =>
   simp only [step, Option.bind_eq_some_iff] at h
   obtain ⟨⟨vs, e1⟩, h1, h⟩ := h
   split at h
   ·rename_i hc
    obtain ⟨⟨q, K⟩, h2, h3⟩ := Option.map_eq_some_iff.1 h
    cases h3
    obtain ⟨a1, a2⟩ := C4 xs e vs e1 h1
    refine ⟨fE h1 hn, a1, fun f hf hr hv => ?_⟩
    obtain ⟨f1, c1, c2, c3⟩ := a2 f hr
    have hf1 := fE c1 hf
    refine ⟨f1, ?_, c2, c3⟩
    simp only [step, c1, Option.bind_some]
    rw [if_pos, h2]
    ·rfl
    ·cases ho : T.pu g with
     | true => simp
     | false =>
       rw [ho] at hc
       have := C6 hf1 a1 c2 c3 (hv (by simp [chk, ho])) (by simpa using hc) (fE h1 hn)
       simp [this]
   ·cases h
 | cav x xs =>
   simp only [step, Option.bind_eq_some_iff] at h
   obtain ⟨⟨u, e0⟩, h0, h⟩ := h
   cases u <;> try cases h
   rename_i g caps
   simp only [Option.bind_eq_some_iff] at h
   obtain ⟨⟨vs, e1⟩, h1, h⟩ := h
   split at h
   ·rename_i hc
    obtain ⟨⟨q, K⟩, h2, h3⟩ := Option.map_eq_some_iff.1 h
    cases h3
    have ha : dB (x :: xs) e = some (V.fn g caps :: vs, e1) := by simp only [dB, h0, Option.bind_some, h1, Option.map_some]
    obtain ⟨a1, a2⟩ := C4 (x :: xs) e _ e1 ha
    simp only [List.flatMap_cons] at a1 a2
    refine ⟨fE ha hn, a1, fun f hf hr hv => ?_⟩
    obtain ⟨f1, c1, c2, c3⟩ := a2 f hr
    have hf1 := fE c1 hf
    refine ⟨f1, ?_, c2, c3⟩
    simp only [dB, Option.bind_eq_some_iff, Option.map_eq_some_iff] at c1
    obtain ⟨⟨u', f0⟩, k1, ⟨us, f2⟩, k2, k3⟩ := c1
    cases k3
    simp only [step, k1, Option.bind_some, k2]
    rw [if_pos, h2]
    ·rfl
    ·cases ho : T.pu g with
     | true => simp
     | false =>
       rw [ho] at hc
       have := C6 hf1 a1 c2 c3 (hv rfl) (by simpa using hc) (fE ha hn)
       simp [this]
   ·cases h
 | cam tbl x xs =>
   simp only [step, Option.bind_eq_some_iff] at h
   obtain ⟨⟨u, e0⟩, h0, h⟩ := h
   cases u <;> try cases h
   rename_i t u
   simp only at h
   split at h
   ·rename_i g hlk
    simp only [Option.bind_eq_some_iff] at h
    obtain ⟨⟨vs, e1⟩, h1, h⟩ := h
    split at h
    ·rename_i hc
     obtain ⟨⟨q, K⟩, h2, h3⟩ := Option.map_eq_some_iff.1 h
     cases h3
     have ha : dB (x :: xs) e = some (V.ifc t u :: vs, e1) := by simp only [dB, h0, Option.bind_some, h1, Option.map_some]
     obtain ⟨a1, a2⟩ := C4 (x :: xs) e _ e1 ha
     simp only [List.flatMap_cons] at a1 a2
     refine ⟨fE ha hn, a1, fun f hf hr hv => ?_⟩
     obtain ⟨f1, c1, c2, c3⟩ := a2 f hr
     have hf1 := fE c1 hf
     refine ⟨f1, ?_, c2, c3⟩
     simp only [dB, Option.bind_eq_some_iff, Option.map_eq_some_iff] at c1
     obtain ⟨⟨u', f0⟩, k1, ⟨us, f2⟩, k2, k3⟩ := c1
     cases k3
     simp only [step, k1, Option.bind_some, k2, hlk]
     rw [if_pos, h2]
     ·rfl
     ·cases ho : T.pu g with
      | true => simp
      | false =>
        rw [ho] at hc
        have := C6 hf1 a1 c2 c3 (hv rfl) (by simpa using hc) (fE ha hn)
        simp [this]
    ·cases h
   ·cases h
structure RowLoc (T : Orc) (s : Option Nat) (r : eJ) (e : aQ) (H : aB) (e' : aQ) (H' : aB) : Prop where
 nodup : (cY e').Nodup
 out : ∀ t, t ∉ nG r → eget e' t = eget e t
 same : ∀ f, (cY f).Nodup → (∀ t ∈ oJ r, eget f t = eget e t) → (chk T r.2.2 = true → Y8 f e) → ∃ f', lA T s r f H = some (f', H') ∧ (∀ t, t ∉ nG r → eget f' t = eget f t) ∧ ∀ t ∈ nG r, eget f' t = eget e' t
theorem rX (e : aQ) (d : Option Nat) (v : V) (t : Nat) : eget (pD e d v) t = if d = some t then some v else eget e t := by
 cases d with
 | none => simp [pD]
 | some d =>
   simp only [pD, vW, Option.some.injEq]
   by_cases h : t = d
   ·subst h; simp
   ·rw [if_neg h, if_neg (Ne.symm h)]
theorem nY (e : aQ) (d : Option Nat) (t : Nat) : eget (aBb e d) t = if d = some t then some (.tup []) else eget e t := rX e d _ t
theorem Y9 {e : aQ} (d : Option Nat) (v : V) (h : (cY e).Nodup) : (cY (pD e d v)).Nodup := by
 cases d with
 | none => exact h
 | some d => exact Y7 d v h
theorem Z0 {e : aQ} (d : Option Nat) (h : (cY e).Nodup) : (cY (aBb e d)).Nodup := Y9 d _ h
theorem aHa (i : I) : ∀ t, t ∈ iW i → t ∈ iR i := by
 have hx : ∀ xs : List X, ∀ t, t ∈ xs.flatMap xw → t ∈ xs.flatMap xr := fun xs t h => by
  obtain ⟨x, h1, h2⟩ := List.mem_flatMap.1 h
  exact List.mem_flatMap.2 ⟨x, h1, xP x t h2⟩
 intro t h
 cases i <;> simp only [iW, iR, List.mem_append] at h ⊢
 ·exact xP _ t h
 ·exact hx _ t h
 ·exact h.imp (fun k => k.imp (xP _ t) (xP _ t)) (xP _ t)
 ·exact h
 ·exact hx _ t h
 ·exact h.imp (xP _ t) (hx _ t)
 ·exact h.imp (xP _ t) (hx _ t)
theorem aIv {T : Orc} {s : Option Nat} {d : Option Nat} {g : Option (Nat × Bool)} {i : I} {e e' : aQ} {H H' : aB} {v : V} (h : step T s i e H = some (v, e', H')) (hn : (cY e).Nodup) :
 (cY (pD e' d v)).Nodup ∧ (∀ t, t ∉ nG (d, g, i) → eget (pD e' d v) t = eget e t) ∧ ∀ f, (cY f).Nodup → (∀ t ∈ oJ (d, g, i), eget f t = eget e t) → (chk T i = true → Y8 f e) →
  ∃ f', step T s i f H = some (v, f', H') ∧ (∀ t, t ∉ nG (d, g, i) → eget (pD f' d v) t = eget f t) ∧ ∀ t ∈ nG (d, g, i), eget (pD f' d v) t = eget (pD e' d v) t := by
 obtain ⟨a1, a2, a3⟩ := aNd h hn
 refine ⟨Y9 d v a1, fun t ht => ?_, fun f hf hr hv => ?_⟩
 ·simp only [nG, List.mem_append, not_or, Option.mem_toList] at ht
  rw [rX, if_neg (fun k => ht.2 k)]; exact a2 t ht.1
 ·obtain ⟨f1, c1, c2, c3⟩ := a3 f hf (fun t ht => hr t (List.mem_append_left _ ht)) hv
  refine ⟨f1, c1, fun t ht => ?_, fun t ht => ?_⟩
  ·simp only [nG, List.mem_append, not_or, Option.mem_toList] at ht
   rw [rX, if_neg (fun k => ht.2 k)]; exact c2 t ht.1
  ·simp only [nG, List.mem_append, Option.mem_toList] at ht
   rw [rX, rX]
   by_cases hd : d = some t
   ·rw [if_pos hd, if_pos hd]
   ·rw [if_neg hd, if_neg hd]
    exact c3 t (ht.resolve_right hd)
theorem kE {T : Orc} {s : Option Nat} {r : eJ} {e e' : aQ} {H H' : aB} (h : lA T s r e H = some (e', H')) (hn : (cY e).Nodup) : RowLoc T s r e H e' H' := by
 obtain ⟨d, g, i⟩ := r
 cases g with
 | none =>
   obtain ⟨⟨v, e1, H1⟩, h1, h2⟩ := Option.map_eq_some_iff.1 (show (step T s i e H).map (fun r => (pD r.2.1 d r.1, r.2.2)) = some (e', H') from h)
   cases h2
   obtain ⟨a1, a2, a3⟩ := aIv (d := d) (g := none) h1 hn
   refine ⟨a1, a2, fun f hf hr hv => ?_⟩
   obtain ⟨f1, c1, c2, c3⟩ := a3 f hf hr hv
   exact ⟨pD f1 d v, by show (step T s i f H).map _ = _; rw [c1]; rfl, c2, c3⟩
 | some gw =>
   obtain ⟨g, want⟩ := gw
   simp only [lA] at h
   cases hc : eget e g with
   | none => rw [hc] at h; cases h
   | some v =>
     rw [hc] at h
     have hgR : g ∈ oJ (d, some (g, want), i) := by simp [oJ]
     cases v <;> try cases h
     case tup.refl vs =>
      refine ⟨Z0 d hn, fun t ht => ?_, fun f hf hr hv => ⟨aBb f d, ?_, fun t ht => ?_, fun t ht => ?_⟩⟩
      ·simp only [nG, List.mem_append, not_or, Option.mem_toList] at ht
       rw [nY, if_neg (fun k => ht.2 k)]
      ·simp only [lA, hr g hgR, hc]
      ·simp only [nG, List.mem_append, not_or, Option.mem_toList] at ht
       rw [nY, if_neg (fun k => ht.2 k)]
      ·simp only [nG, List.mem_append, Option.mem_toList] at ht
       rw [nY, nY]
       by_cases hd : d = some t
       ·rw [if_pos hd, if_pos hd]
       ·rw [if_neg hd, if_neg hd]
        exact hr t (List.mem_append_left _ (aHa i t (ht.resolve_right hd)))
     rename_i c
     simp only at h
     by_cases hcw : c = want
     ·rw [if_pos hcw] at h
      obtain ⟨⟨v, e1, H1⟩, h1, h2⟩ := Option.map_eq_some_iff.1 h
      cases h2
      obtain ⟨a1, a2, a3⟩ := aIv (d := d) (g := some (g, want)) h1 hn
      refine ⟨a1, a2, fun f hf hr hv => ?_⟩
      obtain ⟨f1, c1, c2, c3⟩ := a3 f hf hr hv
      refine ⟨pD f1 d v, ?_, c2, c3⟩
      simp only [lA, hr g hgR, hc, if_pos hcw, c1, Option.map_some]
     ·rw [if_neg hcw] at h
      cases h
      refine ⟨Z0 d hn, fun t ht => ?_, fun f hf hr hv => ⟨aBb f d, ?_, fun t ht => ?_, fun t ht => ?_⟩⟩
      ·simp only [nG, List.mem_append, not_or, Option.mem_toList] at ht
       rw [nY, if_neg (fun k => ht.2 k)]
      ·simp only [lA, hr g hgR, hc, if_neg hcw]
      ·simp only [nG, List.mem_append, not_or, Option.mem_toList] at ht
       rw [nY, if_neg (fun k => ht.2 k)]
      ·simp only [nG, List.mem_append, Option.mem_toList] at ht
       rw [nY, nY]
       by_cases hd : d = some t
       ·rw [if_pos hd, if_pos hd]
       ·rw [if_neg hd, if_neg hd]
        exact hr t (List.mem_append_left _ (aHa i t (ht.resolve_right hd)))
theorem aB4 {e f : aQ} (h : EEq e f) : Y8 f e := fun t v hv => .inr (by rw [h t]; exact hv)
theorem aQk {T : Orc} {s : Option Nat} {r : eJ} {e e' f : aQ} {H H' : aB} (h : lA T s r e H = some (e', H')) (hn : (cY e).Nodup) (hf : (cY f).Nodup) (k : EEq e f) :
 ∃ f', lA T s r f H = some (f', H') ∧ EEq e' f' := by
 obtain ⟨a1, a2, a3⟩ := kE h hn
 obtain ⟨f', c1, c2, c3⟩ := a3 f hf (fun t _ => (k t).symm) fun _ => aB4 k
 refine ⟨f', c1, fun t => ?_⟩
 by_cases hw : t ∈ nG r
 ·exact (c3 t hw).symm
 ·rw [a2 t hw, c2 t hw]; exact k t
theorem aG1 {T : Orc} {s : Option Nat} : ∀ {rs : List eJ} {e e' f : aQ} {H H' : aB}, lB T s rs e H = some (e', H') → (cY e).Nodup → (cY f).Nodup → EEq e f → ∃ f', lB T s rs f H = some (f', H') ∧ EEq e' f'
 | [], e, e', f, H, H', h, _, _, k => by
   cases h
   exact ⟨f, rfl, k⟩
 | r :: rs, e, e', f, H, H', h, hn, hf, k => by
   obtain ⟨⟨e1, H1⟩, h1, h2⟩ := Option.bind_eq_some_iff.1 (show (lA T s r e H).bind (fun q => lB T s rs q.1 q.2) = some (e', H') from h)
   obtain ⟨f1, c1, c2⟩ := aQk h1 hn hf k
   obtain ⟨f', d1, d2⟩ := aG1 h2 (kE h1 hn).nodup (kE c1 hf).nodup c2
   exact ⟨f', by show (lA T s r f H).bind _ = _; rw [c1]; exact d1, d2⟩
theorem Z1 {T : Orc} {s : Option Nat} : ∀ {rs : List eJ} {e e' : aQ} {H H' : aB}, lB T s rs e H = some (e', H') → (cY e).Nodup → (cY e').Nodup
 | [], e, e', H, H', h, hn => by cases h; exact hn
 | r :: rs, e, e', H, H', h, hn => by
   obtain ⟨⟨e1, H1⟩, h1, h2⟩ := Option.bind_eq_some_iff.1 (show (lA T s r e H).bind (fun q => lB T s rs q.1 q.2) = some (e', H') from h)
   exact Z1 h2 (kE h1 hn).nodup
theorem J6 {T : Orc} {s : Option Nat} {t : Nat} : ∀ {rs : List eJ} {e e' : aQ} {H H' : aB}, lB T s rs e H = some (e', H') → (cY e).Nodup → (∀ r ∈ rs, t ∉ nG r) → eget e' t = eget e t
 | [], e, e', H, H', h, hn, _ => by cases h; rfl
 | r :: rs, e, e', H, H', h, hn, hw => by
   obtain ⟨⟨e1, H1⟩, h1, h2⟩ := Option.bind_eq_some_iff.1 (show (lA T s r e H).bind (fun q => lB T s rs q.1 q.2) = some (e', H') from h)
   have k := kE h1 hn
   rw [J6 h2 k.nodup fun r' hr' => hw r' (List.mem_cons_of_mem _ hr')]
   exact k.out t (hw r (List.mem_cons_self ..))
end Go.Abs
namespace Go.Abs
theorem vA {pure : FuncId → Bool} {o : O} {xs : List X} : jJ pure (.op o xs) = match o with
 | .ld | .ldn _ | .lv | .app .. => .R
 | .box _ | .alc _ | .mks .. => .A
 | .st | .stn _ => .W
 | .apv .. | .apg .. | .clr .. | .cpy _ => .U
 | _ => .S := rfl
theorem dI {α : Type} {x : Option V} {H : aB} {r : V} {H' : aB} (h : x.map (·, H) = some (r, H')) : x = some r ∧ H' = H := by
 obtain ⟨u, hu, e⟩ := Option.map_eq_some_iff.1 h
 cases e
 exact ⟨hu, rfl⟩
theorem aQf {pure : FuncId → Bool} {s : Option Nat} {o : O} {xs : List X} {vs : List V} {H H' : aB} {r : V} (hc : jJ pure (.op o xs) = .S) (h : apply s o vs H = some (r, H')) : H' = H ∧ ∀ G, apply s o vs G = some (r, G) := by
 rw [vA] at hc
 cases o <;> simp only at hc <;> try cases hc
 all_goals simp only [apply] at h ⊢
 all_goals first
  | (cases h; done)
  | (obtain ⟨h1, h2⟩ := dI (α := V) h; exact ⟨h2, fun G => by rw [h1]; rfl⟩)
  | (obtain ⟨u, hu, e⟩ := Option.map_eq_some_iff.1 h; cases e; exact ⟨rfl, fun G => by rw [hu]; rfl⟩)
  | (split at h
     ·rename_i hh
      first
       | (cases h; exact ⟨rfl, fun G => by rw [if_pos hh]⟩)
       | (obtain ⟨u, hu, e⟩ := Option.map_eq_some_iff.1 h; cases e; exact ⟨rfl, fun G => by rw [if_pos hh, hu]; rfl⟩)
     ·cases h)
  | (cases h; exact ⟨rfl, fun G => rfl⟩)
theorem aQg {pure : FuncId → Bool} {s : Option Nat} {o : O} {xs : List X} {vs : List V} {H H' : aB} {r : V} (hc : jJ pure (.op o xs) = .R) (h : apply s o vs H = some (r, H')) : H' = H := by
 rw [vA] at hc
 cases o <;> simp only at hc <;> try cases hc
 all_goals simp only [apply] at h
 all_goals exact (dI (α := V) h).2
theorem aQh {pure : FuncId → Bool} {s : Option Nat} {o : O} {xs : List X} {vs : List V} {H H' : aB} {r : V} (hc : jJ pure (.op o xs) = .A) (h : apply s o vs H = some (r, H')) : ∃ x, H' = H ++ [x] := by
 rw [vA] at hc
 cases o <;> simp only at hc <;> try cases hc
 ·simp only [apply] at h
  unfold aKj at h
  split at h
  ·split at h
   ·cases h; exact ⟨_, rfl⟩
   ·cases h
  ·cases h
 ·simp only [apply] at h
  split at h
  ·cases h; exact ⟨_, rfl⟩
  ·cases h
 ·simp only [apply] at h
  unfold aHn at h
  split at h
  ·split at h
   ·cases h; exact ⟨_, rfl⟩
   ·cases h
  ·cases h
theorem n9 {H X : aB} {id o n : Nat} {cs : List V} (h : bX H id o n = some cs) : bX (H ++ X) id o n = some cs := by
 unfold bX at h ⊢
 obtain ⟨ds, h1, h2⟩ := Option.bind_eq_some_iff.1 h
 have hlt : id < H.length := (List.getElem?_eq_some_iff.1 h1).1
 rw [List.getElem?_append_left hlt, h1]
 exact h2
theorem L6 {H X : aB} {id o : Nat} {v : V} (h : rM H id o = some v) : rM (H ++ X) id o = some v := by
 unfold rM at h ⊢
 obtain ⟨ds, h1, h2⟩ := Option.bind_eq_some_iff.1 h
 have hlt : id < H.length := (List.getElem?_eq_some_iff.1 h1).1
 rw [List.getElem?_append_left hlt, h1]
 exact h2
theorem aFv {sz : Nat} {x : V} {H X : aB} {q : Nat × List V} (h : sQ sz x H = some q) : sQ sz x (H ++ X) = some q := by
 unfold sQ at h ⊢
 split at h
 ·exact h
 ·obtain ⟨ds, h1, h2⟩ := Option.map_eq_some_iff.1 h
  simp only [n9 h1, Option.map_some, h2]
 ·exact h
 ·exact h
 ·cases h
theorem O6 {sz bytes : Nat} {s x r : V} {H X : aB} (h : eQ sz bytes s x H = some r) : eQ sz bytes s x (H ++ X) = some r := by
 unfold eQ at h ⊢
 split at h
 ·split at h
  ·rename_i hh
   obtain ⟨q, h1, h2⟩ := Option.bind_eq_some_iff.1 h
   rw [if_pos hh, aFv h1]
   exact h2
  ·cases h
 ·cases h
theorem aFw {pure : FuncId → Bool} {s : Option Nat} {o : O} {xs : List X} {vs : List V} {H H' X : aB} {r : V} (hc : jJ pure (.op o xs) = .R) (h : apply s o vs H = some (r, H')) : apply s o vs (H ++ X) = some (r, H ++ X) := by
 rw [vA] at hc
 cases o <;> simp only at hc <;> try cases hc
 all_goals simp only [apply] at h ⊢
 all_goals obtain ⟨h1, h2⟩ := dI (α := V) h
 ·unfold aLd at h1 ⊢
  split at h1
  ·obtain ⟨u, hu, e⟩ := Option.map_eq_some_iff.1 h1
   simp only [L6 hu, Option.map_some, e]
  ·simp only [h1, Option.map_some]
  ·cases h1
 ·unfold O8 at h1 ⊢
  split at h1
  ·obtain ⟨u, hu, e⟩ := Option.map_eq_some_iff.1 h1
   simp only [n9 hu, Option.map_some, e]
  ·simp only [h1, Option.map_some]
  ·cases h1
 ·unfold aLv at h1 ⊢
  split at h1
  ·obtain ⟨u, hu, e⟩ := Option.map_eq_some_iff.1 h1
   simp only [L6 hu, Option.map_some, e]
  ·simp only [h1, Option.map_some]
  ·cases h1
 ·unfold aQr at h1 ⊢
  split at h1
  ·simp only [O6 h1, Option.map_some]
  ·cases h1
def Y5 (e : aQ) (t n : Nat) (H G : aB) : Prop := ∀ id o, eget e t = some (.ptr id o) → bX G id o n = bX H id o n
theorem tS (H : aB) (id o : Nat) : rM H id o = (bX H id o 1).bind (·[0]?) := by
 unfold rM bX
 cases h : H[id]? with
 | none => rfl
 | some cs =>
   simp only [Option.bind_some]
   by_cases hl : o + 1 ≤ cs.length
   ·rw [if_pos hl, Option.bind_some, List.getElem?_take, if_pos (by omega), List.getElem?_drop, Nat.add_zero]
   ·rw [if_neg hl, Option.bind_none]
    exact List.getElem?_eq_none (by omega)
theorem xL {u : V} {id o : Nat} (h : u.dis = .ptr id o) : u = .ptr id o := by cases u <;> first | exact h | cases h
theorem aQi {pure : FuncId → Bool} {T : Orc} {s : Option Nat} {i : I} {t n : Nat} {e e' : aQ} {H H' G : aB} {v : V} (hc : jJ pure i = .R) (hp : place i = some (t, n)) (h : step T s i e H = some (v, e', H')) (hs : Y5 e t n H G) :
 step T s i e G = some (v, e', G) := by
 cases i <;> try (simp [jJ] at hc; done)
 case call f xs nw => simp only [jJ] at hc; split at hc <;> cases hc
 rename_i o xs
 obtain ⟨rfl, hk⟩ : xs = [.t t] ∧ (o = .ld ∧ n = 1 ∨ o = .lv ∧ n = 1 ∨ o = .ldn n) := by
  rw [vA] at hc
  unfold place at hp
  split at hp <;> simp_all
 simp only [step, dB, eI, Option.bind_eq_some_iff, Option.map_eq_some_iff] at h
 obtain ⟨⟨vs, e1⟩, ⟨q, ⟨u, hu, rfl⟩, ⟨vs', e2⟩, h1, h2⟩, h3⟩ := h
 cases h1
 cases h2
 have hw : o.writes = false := by rcases hk with ⟨rfl, _⟩ | ⟨rfl, _⟩ | rfl <;> rfl
 rw [hw] at h3
 simp only [Bool.not_false, Bool.true_or, if_true] at h3
 obtain ⟨⟨r, K⟩, h4, h5⟩ := Option.map_eq_some_iff.1 h3
 cases h5
 simp only [step, dB, eI, hu, Option.map_some, Option.bind_some, hw, Bool.not_false, Bool.true_or, if_true]
 have key : apply s o [u.dis] G = some (r, G) := by
  rcases hk with ⟨rfl, rfl⟩ | ⟨rfl, rfl⟩ | rfl
  ·simp only [apply] at h4 ⊢
   obtain ⟨h5, h6⟩ := dI (α := V) h4
   unfold aLd at h5 ⊢
   split at h5
   ·rename_i id o hd
    simp only [List.cons.injEq, and_true] at hd
    have := hs id o (by rw [hu]; exact congrArg some (xL hd))
    rw [tS, this, ← tS, h5]; rfl
   ·rename_i cs j hd
    simp only [List.cons.injEq, and_true] at hd
    simp only [hd, h5, Option.map_some]
   ·cases h5
  ·simp only [apply] at h4 ⊢
   obtain ⟨h5, h6⟩ := dI (α := V) h4
   unfold aLv at h5 ⊢
   split at h5
   ·rename_i id o hd
    simp only [List.cons.injEq, and_true] at hd
    have := hs id o (by rw [hu]; exact congrArg some (xL hd))
    rw [tS, this, ← tS, h5]; rfl
   ·rename_i cs j hd
    simp only [List.cons.injEq, and_true] at hd
    simp only [hd, h5, Option.map_some]
   ·cases h5
  ·simp only [apply] at h4 ⊢
   obtain ⟨h5, h6⟩ := dI (α := V) h4
   unfold O8 at h5 ⊢
   split at h5
   ·rename_i id o hd
    simp only [List.cons.injEq, and_true] at hd
    have := hs id o (by rw [hu]; exact congrArg some (xL hd))
    rw [this, h5]; rfl
   ·rename_i cs j hd
    simp only [List.cons.injEq, and_true] at hd
    simp only [hd, h5, Option.map_some]
   ·cases h5
 rw [key]; rfl
theorem Y6 {H : aB} {id j p m o n : Nat} {cs ds : List V} (hc : H[id]? = some cs) (hl : ds.length = cs.length) (hs : ∀ k, ¬ (o ≤ k ∧ k < o + n) → ds[k]? = cs[k]?) (ha : id ≠ j ∨ o + n ≤ p ∨ p + m ≤ o) :
 bX (H.set id ds) j p m = bX H j p m := by
 unfold bX
 by_cases hj : id = j
 ·subst hj
  have hlt := (List.getElem?_eq_some_iff.1 hc).1
  rw [List.getElem?_set_self hlt, hc]
  simp only [Option.bind_some, hl]
  by_cases hle : p + m ≤ cs.length
  ·rw [if_pos hle, if_pos hle]
   congr 1
   refine List.ext_getElem? fun k => ?_
   rw [List.getElem?_take, List.getElem?_take]
   by_cases hk : k < m
   ·rw [if_pos hk, if_pos hk, List.getElem?_drop, List.getElem?_drop]
    exact hs _ (by rcases ha with h | h | h <;> omega)
   ·rw [if_neg hk, if_neg hk]
  ·rw [if_neg hle, if_neg hle]
 ·rw [List.getElem?_set_ne hj]
theorem L7 {id o n : Nat} {y : Option V} {j p m : Nat} (hn : ¬ (n = near ∧ m = near)) (h : fK (some (.ptr id o)) n y m = true ∨ fK y m (some (.ptr id o)) n = true) (hy : y = some (.ptr j p)) : id ≠ j ∨ o + n ≤ p ∨ p + m ≤ o := by
 subst hy
 rcases h with h | h
 ·have hc : ¬ ((n == near && m == near) = true) := by simpa using hn
  simp only [fK] at h
  rw [if_neg hc] at h
  simp only [Bool.or_eq_true, Bool.and_eq_true, decide_eq_true_eq] at h
  rcases h with h | ⟨_, h | h⟩
  ·exact .inl h
  ·exact .inr (.inl h)
  ·exact .inr (.inr h)
 ·have hc : ¬ ((m == near && n == near) = true) := by simpa using fun a b => hn ⟨b, a⟩
  simp only [fK] at h
  rw [if_neg hc] at h
  simp only [Bool.or_eq_true, Bool.and_eq_true, decide_eq_true_eq] at h
  rcases h with h | ⟨_, h | h⟩
  ·exact .inl (Ne.symm h)
  ·exact .inr (.inr h)
  ·exact .inr (.inl h)
theorem aQj {pure : FuncId → Bool} {T : Orc} {s : Option Nat} {i : I} {t n u m : Nat} {e f e' : aQ} {H H' : aB} {v : V} (hc : jJ pure i = .W) (hp : place i = some (t, n)) (h : step T s i e H = some (v, e', H'))
 (hn : ¬ (n = near ∧ m = near)) (ha : fK (eget e t) n (eget f u) m = true ∨ fK (eget f u) m (eget e t) n = true) : Y5 f u m H H' := by
 cases i <;> try (simp [jJ] at hc; done)
 case call f xs nw => simp only [jJ] at hc; split at hc <;> cases hc
 rename_i o xs
 obtain ⟨y, rfl, hk⟩ : ∃ y, xs = [.t t, y] ∧ (o = .st ∧ n = 1 ∨ o = .stn n) := by
  rw [vA] at hc
  unfold place at hp
  split at hp <;> simp_all
 intro j p hu
 simp only [step, dB, eI, Option.bind_eq_some_iff, Option.map_eq_some_iff] at h
 obtain ⟨⟨vs, e1⟩, ⟨q, ⟨x, hx, rfl⟩, ⟨vs', e2⟩, ⟨z, hz, ⟨ws, e3⟩, h0, h1⟩, h2⟩, h3⟩ := h
 cases h0
 cases h1
 cases h2
 split at h3
 ·obtain ⟨⟨r, K⟩, h4, h5⟩ := Option.map_eq_some_iff.1 h3
  cases h5
  rcases hk with ⟨rfl, rfl⟩ | rfl
  ·simp only [apply] at h4
   unfold aSt at h4
   split at h4
   ·rename_i id o w hd
    simp only [List.cons.injEq, and_true] at hd
    obtain ⟨hd, rfl⟩ := hd
    split at h4
    ·rename_i hh
     cases h4
     simp only [Bool.and_eq_true] at hh
     obtain ⟨c, hc1⟩ := Option.isSome_iff_exists.1 hh.1.2
     unfold rM at hc1
     obtain ⟨cs, h6, h7⟩ := Option.bind_eq_some_iff.1 hc1
     rw [hx, xL hd] at ha
     unfold yV
     rw [h6]
     refine Y6 (n := 1) (o := o) h6 (by simp) (fun k hk => ?_) (L7 hn ha hu)
     rw [Option.getD_some, List.getElem?_set_ne (by omega)]
    ·cases h4
   ·cases h4
  ·simp only [apply] at h4
   unfold aG4 at h4
   split at h4
   ·rename_i id o xs hd
    simp only [List.cons.injEq, and_true] at hd
    obtain ⟨hd, hz2⟩ := hd
    split at h4
    ·rename_i hh
     cases h4
     simp only [Bool.and_eq_true, decide_eq_true_eq] at hh
     obtain ⟨⟨hl, hh⟩, _⟩ := hh
     obtain ⟨c, hc1⟩ := Option.isSome_iff_exists.1 hh
     unfold bX at hc1
     obtain ⟨cs, h6, h7⟩ := Option.bind_eq_some_iff.1 hc1
     split at h7
     ·rename_i hle
      rw [hx, xL hd] at ha
      rw [h6, Option.getD_some]
      refine Y6 (n := n) (o := o) h6 (by unfold fB; simp; omega) (fun k hk => ?_) (L7 hn ha hu)
      unfold fB
      by_cases hk1 : k < o
      ·rw [List.append_assoc, List.getElem?_append_left (by simp; omega), List.getElem?_take, if_pos hk1]
      ·rw [List.getElem?_append_right (by simp; omega), List.getElem?_drop]
       congr 1
       simp only [List.length_append, List.length_take]
       omega
     ·cases h7
    ·cases h4
   ·cases h4
 ·cases h3
end Go.Abs
