/- A part of the proof of RowSpeakSync: lemmas alone, without conditions. -/
import Derived.Test.YtpcnjabfiahhhaaGreatDoorJ9
set_option linter.all false
namespace Go.Abs
def EEq (e f : aX) : Prop := ∀ t, eget e t = eget f t
theorem EEq.refl (e : aX) : EEq e e := fun _ => rfl
theorem EEq.symm {e f : aX} (h : EEq e f) : EEq f e := fun t => (h t).symm
theorem EEq.trans {e f g : aX} (h : EEq e f) (k : EEq f g) : EEq e g := fun t => (h t).trans (k t)
theorem hY : ∀ (e : aX) (t s : Nat), eget (bQ e t) s = if s = t then none else eget e s
 | [], t, s => by simp [bQ, eget]
 | (x, v) :: e, t, s => by
   simp only [bQ]
   by_cases hx : x = t
   ·subst hx
    rw [if_pos rfl, hY e x s]
    by_cases hs : s = x
    ·rw [if_pos hs, if_pos hs]
    ·rw [if_neg hs, if_neg hs]; simp only [eget]; rw [if_neg (Ne.symm hs)]
   ·rw [if_neg hx]
    simp only [eget]
    by_cases hxs : x = s
    ·subst hxs; rw [if_pos rfl, if_neg hx, if_pos rfl]
    ·rw [if_neg hxs, hY e t s]
     by_cases hs : s = t
     ·rw [if_pos hs, if_pos hs]
     ·rw [if_neg hs, if_neg hs, if_neg hxs]
theorem tY (e : aX) (t : Nat) (v : V) (s : Nat) : eget (uA e t v) s = if s = t then some v else eget e s := by
 unfold uA
 simp only [eget]
 by_cases hs : t = s
 ·subst hs; rw [if_pos rfl, if_pos rfl]
 ·rw [if_neg hs, if_neg (Ne.symm hs), hY, if_neg (Ne.symm hs)]
theorem aA5 : ∀ {e : aX} {t : Nat}, eget e t = none ↔ t ∉ dE e
 | [], t => by simp [eget]
 | (x, v) :: e, t => by
   simp only [eget, dE, List.map_cons, List.mem_cons, not_or]
   by_cases hx : x = t
   ·subst hx; simp
   ·rw [if_neg hx, aA5 (e := e)]
    exact ⟨fun h => ⟨Ne.symm hx, h⟩, fun h => h.2⟩
theorem B3 : ∀ {e : aX} {t : Nat} {v : V}, (dE e).Nodup → (t, v) ∈ e → eget e t = some v
 | [], _, _, _, h => by cases h
 | (x, u) :: e, t, v, hn, h => by
   simp only [dE, List.map_cons, List.nodup_cons] at hn
   simp only [eget]
   rcases List.mem_cons.1 h with h | h
   ·cases h; rw [if_pos rfl]
   ·rw [if_neg, B3 hn.2 h]
    rintro rfl
    exact hn.1 (List.mem_map.2 ⟨(x, v), h, rfl⟩)
theorem vD {e : aX} (t : Nat) (hn : (dE e).Nodup) : (dE (bQ e t)).Nodup := gV (mN e t) hn
theorem J9 {e : aX} (t : Nat) (v : V) (hn : (dE e).Nodup) : (dE (uA e t v)).Nodup := by
 simp only [uA, dE, List.map_cons, List.nodup_cons]
 refine ⟨fun hm => ?_, vD t hn⟩
 obtain ⟨p, hp, rfl⟩ := List.mem_map.1 hm
 exact qO hp rfl
theorem B4 : ∀ {e f : aX}, (dE e).Nodup → (dE f).Nodup → EEq e f → e.Perm f
 | [], f, _, _, h => by
   cases f with
   | nil => exact .refl _
   | cons p f =>
     have := h p.1
     simp [eget] at this
 | (t, v) :: e, f, he, hf, h => by
   have h1 : eget f t = some v := by rw [← h t]; simp [eget]
   refine List.Perm.trans ?_ (uH hf h1).symm
   refine .cons _ (B4 ?_ (vD t hf) fun s => ?_)
   ·simp only [dE, List.map_cons, List.nodup_cons] at he; exact he.2
   ·simp only [dE, List.map_cons, List.nodup_cons] at he
    rw [hY]
    by_cases hs : s = t
    ·subst hs; rw [if_pos rfl]; exact aA5.2 he.1
    ·rw [if_neg hs, ← h s]; simp only [eget]; rw [if_neg (Ne.symm hs)]
section
variable {P : Program} {lim : Option Nat} {B : Nat} {F : List Nat} {nt : Nat} {S : Nat → Nat → Prop} {bl : List Nat} {e f : aX} {H : aB} {w : World} {a : Act}
theorem ER.perm (h : ER lim B F nt S bl e H a w) (hp : f.Perm e) : ER lim B F nt S bl f H a w :=
 ⟨((hp.map _).nodup_iff).2 h.nodup, fun p hm => h.bnd p (hp.mem_iff.1 hm), h.st.perm (hp.map _), h.size, h.defers, h.room⟩
theorem ER.eeq (h : ER lim B F nt S bl e H a w) (hf : (dE f).Nodup) (k : EEq e f) : ER lim B F nt S bl f H a w := h.perm (B4 hf h.nodup k.symm)
end
def Loc {α : Type} (A : aX → Option (α × aX)) (R W : List Nat) : Prop :=
 ∀ e v e', A e = some (v, e') → (∀ t, t ∉ W → eget e' t = eget e t) ∧
  ∀ f, (∀ t ∈ R, eget f t = eget e t) → ∃ f', A f = some (v, f') ∧ (∀ t, t ∉ W → eget f' t = eget f t) ∧ ∀ t ∈ W, eget f' t = eget e' t
theorem k9 (x : X) : Loc (gZ x) (xr x) (xw x) := by
 intro e v e' h
 cases x with
 | t n =>
   obtain ⟨u, hu, e1⟩ := Option.map_eq_some_iff.1 (show (eget e n).map (fun x => (x.dis, e)) = some (v, e') from h)
   cases e1
   refine ⟨fun _ _ => rfl, fun f hf => ⟨f, ?_, fun _ _ => rfl, fun t ht => by simp [xw] at ht⟩⟩
   simp only [gZ, hf n (by simp [xr]), hu, Option.map_some]
 | m n =>
   obtain ⟨u, hu, e1⟩ := Option.map_eq_some_iff.1 (show (eget e n).map (fun x => (x, bQ e n)) = some (v, e') from h)
   cases e1
   refine ⟨fun t ht => by rw [hY, if_neg]; simpa [xw] using ht, fun f hf => ⟨bQ f n, ?_, fun t ht => by rw [hY, if_neg]; simpa [xw] using ht, fun t ht => ?_⟩⟩
   ·simp only [gZ, hf n (by simp [xr]), hu, Option.map_some]
   ·have : t = n := by simpa [xw] using ht
    subst this
    rw [hY, hY, if_pos rfl, if_pos rfl]
 | k u =>
   obtain ⟨rfl, rfl⟩ : u = v ∧ e = e' := by simpa [gZ] using h
   exact ⟨fun _ _ => rfl, fun f hf => ⟨f, rfl, fun _ _ => rfl, fun t ht => by simp [xw] at ht⟩⟩
theorem l0 : ∀ xs : List X, Loc (fW xs) (xs.flatMap xr) (xs.flatMap xw)
 | [] => by
   intro e v e' h
   obtain ⟨rfl, rfl⟩ : [] = v ∧ e = e' := by simpa [fW] using h
   exact ⟨fun _ _ => rfl, fun f hf => ⟨f, rfl, fun _ _ => rfl, fun t ht => by simp at ht⟩⟩
 | x :: xs => by
   intro e v e' h
   simp only [fW, Option.bind_eq_some_iff, Option.map_eq_some_iff] at h
   obtain ⟨⟨u, e1⟩, h1, ⟨us, e2⟩, h2, h3⟩ := h
   cases h3
   obtain ⟨a1, a2⟩ := k9 x e u e1 h1
   obtain ⟨b1, b2⟩ := l0 xs e1 us e2 h2
   simp only [List.flatMap_cons, List.mem_append, not_or]
   refine ⟨fun t ht => (b1 t ht.2).trans (a1 t ht.1), fun f hf => ?_⟩
   obtain ⟨f1, c1, c2, c3⟩ := a2 f fun t ht => hf t (.inl ht)
   obtain ⟨f2, d1, d2, d3⟩ := b2 f1 fun t ht => by
    by_cases hw : t ∈ xw x
    ·exact c3 t hw
    ·rw [c2 t hw, a1 t hw]; exact hf t (.inr ht)
   refine ⟨f2, by simp only [fW, c1, Option.bind_some, d1, Option.map_some], fun t ht => (d2 t ht.2).trans (c2 t ht.1), fun t ht => ?_⟩
   by_cases hw : t ∈ xs.flatMap xw
   ·exact d3 t hw
   ·rw [d2 t hw, b1 t hw]
    exact c3 t (ht.resolve_right hw)
theorem yB {x : X} {e e' : aX} {v : V} (h : gZ x e = some (v, e')) (hn : (dE e).Nodup) : (dE e').Nodup := by
 cases x with
 | t n => obtain ⟨u, _, e1⟩ := Option.map_eq_some_iff.1 (show (eget e n).map (fun x => (x.dis, e)) = some (v, e') from h); cases e1; exact hn
 | m n => obtain ⟨u, _, e1⟩ := Option.map_eq_some_iff.1 (show (eget e n).map (fun x => (x, bQ e n)) = some (v, e') from h); cases e1; exact vD _ hn
 | k u => obtain ⟨rfl, rfl⟩ : u = v ∧ e = e' := by simpa [gZ] using h
          exact hn
theorem fE : ∀ {xs : List X} {e e' : aX} {vs : List V}, fW xs e = some (vs, e') → (dE e).Nodup → (dE e').Nodup
 | [], e, e', vs, h, hn => by
   obtain ⟨rfl, rfl⟩ : [] = vs ∧ e = e' := by simpa [fW] using h
   exact hn
 | x :: xs, e, e', vs, h, hn => by
   simp only [fW, Option.bind_eq_some_iff, Option.map_eq_some_iff] at h
   obtain ⟨⟨u, e1⟩, h1, ⟨us, e2⟩, h2, h3⟩ := h
   cases h3
   exact fE h2 (yB h1 hn)
def K0 (f e : aX) : Prop := ∀ t v, eget f t = some v → v.noVia = true ∨ eget e t = some v
theorem l5 {e : aX} (hn : (dE e).Nodup) : oY e = true ↔ ∀ t v, eget e t = some v → v.noVia = true :=
 O2.trans ⟨fun h t v hv => h _ (uG hv), fun h p hp => h p.1 p.2 (B3 hn hp)⟩
theorem l6 {e e1 f f1 : aX} {W : List Nat} (hf : (dE f1).Nodup) (he : ∀ t, t ∉ W → eget e1 t = eget e t) (k1 : ∀ t, t ∉ W → eget f1 t = eget f t) (k2 : ∀ t ∈ W, eget f1 t = eget e1 t)
 (hs : K0 f e) (hc : oY e1 = true) (hn : (dE e1).Nodup) : oY f1 = true := by
 refine (l5 hf).2 fun t v hv => ?_
 by_cases hw : t ∈ W
 ·rw [k2 t hw] at hv
  exact (l5 hn).1 hc t v hv
 ·rw [k1 t hw] at hv
  rcases hs t v hv with h | h
  ·exact h
  ·rw [← he t hw] at h
   exact (l5 hn).1 hc t v h
def chk (T : Orc) : I → Bool
 | .op o _ => o.writes
 | .call f _ _ => !T.pu f
 | .cav .. | .cam .. => true
 | _ => false
structure StepLoc (T : Orc) (s : Option Nat) (i : I) (e : aX) (H : aB) (v : V) (e' : aX) (H' : aB) : Prop where
 nodup : (dE e').Nodup
 out : ∀ t, t ∉ iW i → eget e' t = eget e t
 same : ∀ f, (dE f).Nodup → (∀ t ∈ iR i, eget f t = eget e t) → (chk T i = true → K0 f e) → ∃ f', step T s i f H = some (v, f', H') ∧ (∀ t, t ∉ iW i → eget f' t = eget f t) ∧ ∀ t ∈ iW i, eget f' t = eget e' t
theorem vE (x : X) : ∀ t, t ∈ xw x → t ∈ xr x := by cases x <;> simp [xw, xr]
theorem aLt {T : Orc} {s : Option Nat} {i : I} {e e' : aX} {H H' : aB} {v : V} (h : step T s i e H = some (v, e', H')) (hn : (dE e).Nodup) : StepLoc T s i e H v e' H' := by
 cases i with
 | mv x =>
   obtain ⟨⟨u, e1⟩, h1, h2⟩ := Option.map_eq_some_iff.1 (show (gZ x e).map (fun r => (r.1, r.2, H)) = some (v, e', H') from h)
   cases h2
   obtain ⟨a1, a2⟩ := k9 x e u e1 h1
   refine ⟨yB h1 hn, a1, fun f hf hr _ => ?_⟩
   obtain ⟨f1, c1, c2, c3⟩ := a2 f hr
   exact ⟨f1, by simp only [step, c1, Option.map_some], c2, c3⟩
 | op o xs =>
   simp only [step, Option.bind_eq_some_iff] at h
   obtain ⟨⟨vs, e1⟩, h1, h⟩ := h
   split at h
   ·rename_i hc
    obtain ⟨⟨q, K⟩, h2, h3⟩ := Option.map_eq_some_iff.1 h
    cases h3
    obtain ⟨a1, a2⟩ := l0 xs e vs e1 h1
    refine ⟨fE h1 hn, a1, fun f hf hr hv => ?_⟩
    obtain ⟨f1, c1, c2, c3⟩ := a2 f hr
    have hf1 := fE c1 hf
    refine ⟨f1, ?_, c2, c3⟩
    simp only [step, c1, Option.bind_some]
    rw [if_pos, h2]
    ·rfl
    ·cases ho : o.writes with
     | false => simp
     | true =>
       rw [ho] at hc
       have := l6 hf1 a1 c2 c3 (hv ho) (by simpa using hc) (fE h1 hn)
       simp [this]
   ·cases h
 | pick c x y =>
   simp only [step, Option.bind_eq_some_iff] at h
   obtain ⟨⟨u, e1⟩, h1, h⟩ := h
   cases u <;> try cases h
   rename_i b
   obtain ⟨⟨u, e2⟩, h2, h3⟩ := Option.map_eq_some_iff.1 h
   cases h3
   obtain ⟨a1, a2⟩ := k9 c e _ e1 h1
   obtain ⟨b1, b2⟩ := k9 (if b then x else y) e1 u e2 h2
   have hw : ∀ t, t ∈ xw (if b then x else y) → t ∈ xw x ++ xw y := by intro t ht; cases b <;> simp_all
   have hr' : ∀ t, t ∈ xr (if b then x else y) → t ∈ xr x ++ xr y := by intro t ht; cases b <;> simp_all
   simp only [List.mem_append] at hw hr'
   refine ⟨yB h2 (yB h1 hn), fun t ht => ?_, fun f hf hr _ => ?_⟩
   ·simp only [iW, List.mem_append, not_or] at ht
    exact (b1 t fun k => (hw t k).elim ht.1.2 ht.2).trans (a1 t ht.1.1)
   ·simp only [iR, List.mem_append] at hr
    obtain ⟨f1, c1, c2, c3⟩ := a2 f fun t ht => hr t (.inl (.inl ht))
    have hr1 : ∀ t, (t ∈ xr x ∨ t ∈ xr y) → eget f1 t = eget e1 t := fun t ht => by
     by_cases hw1 : t ∈ xw c
     ·exact c3 t hw1
     ·rw [c2 t hw1, a1 t hw1]; exact hr t (ht.elim (fun k => .inl (.inr k)) .inr)
    obtain ⟨f2, d1, d2, d3⟩ := b2 f1 fun t ht => hr1 t (hr' t ht)
    refine ⟨f2, ?_, fun t ht => ?_, fun t ht => ?_⟩
    ·simp only [step, c1, Option.bind_some]
     rw [d1]; rfl
    ·simp only [iW, List.mem_append, not_or] at ht
     exact (d2 t fun k => (hw t k).elim ht.1.2 ht.2).trans (c2 t ht.1.1)
    ·simp only [iW, List.mem_append] at ht
     by_cases k : t ∈ xw (if b then x else y)
     ·exact d3 t k
     ·rw [d2 t k, b1 t k]
      rcases ht with (ht | ht) | ht
      ·exact c3 t ht
      ·exact hr1 t (.inl (vE x t ht))
      ·exact hr1 t (.inr (vE y t ht))
 | exm j t =>
   simp only [step] at h
   split at h
   ·rename_i vs hg
    obtain ⟨u, hu, e1⟩ := Option.map_eq_some_iff.1 h
    cases e1
    refine ⟨J9 _ _ hn, fun x hx => by rw [tY, if_neg]; simpa [iW] using hx, fun f hf hr _ => ?_⟩
    refine ⟨uA f t (.tup (vs.set j v.dis2)), ?_, fun x hx => by rw [tY, if_neg]; simpa [iW] using hx, fun x hx => ?_⟩
    ·simp only [step, hr t (by simp [iR]), hg, hu, Option.map_some]
    ·have : x = t := by simpa [iW] using hx
     subst this
     rw [tY, tY, if_pos rfl, if_pos rfl]
   ·cases h
 | call g xs nw =>
   simp only [step, Option.bind_eq_some_iff] at h
   obtain ⟨⟨vs, e1⟩, h1, h⟩ := h
   split at h
   ·rename_i hc
    obtain ⟨⟨q, K⟩, h2, h3⟩ := Option.map_eq_some_iff.1 h
    cases h3
    obtain ⟨a1, a2⟩ := l0 xs e vs e1 h1
    refine ⟨fE h1 hn, a1, fun f hf hr hv => ?_⟩
    obtain ⟨f1, c1, c2, c3⟩ := a2 f hr
    have hf1 := fE c1 hf
    refine ⟨f1, ?_, c2, c3⟩
    simp only [step, c1, Option.bind_some]
    rw [if_pos, h2]
    ·rfl
    ·cases ho : T.pu g with
     | true => simp
     | false =>
       rw [ho] at hc
       have := l6 hf1 a1 c2 c3 (hv (by simp [chk, ho])) (by simpa using hc) (fE h1 hn)
       simp [this]
   ·cases h
 | cav x xs =>
   simp only [step, Option.bind_eq_some_iff] at h
   obtain ⟨⟨u, e0⟩, h0, h⟩ := h
   cases u <;> try cases h
   rename_i g caps
   simp only [Option.bind_eq_some_iff] at h
   obtain ⟨⟨vs, e1⟩, h1, h⟩ := h
   split at h
   ·rename_i hc
    obtain ⟨⟨q, K⟩, h2, h3⟩ := Option.map_eq_some_iff.1 h
    cases h3
    have ha : fW (x :: xs) e = some (V.fn g caps :: vs, e1) := by simp only [fW, h0, Option.bind_some, h1, Option.map_some]
    obtain ⟨a1, a2⟩ := l0 (x :: xs) e _ e1 ha
    simp only [List.flatMap_cons] at a1 a2
    refine ⟨fE ha hn, a1, fun f hf hr hv => ?_⟩
    obtain ⟨f1, c1, c2, c3⟩ := a2 f hr
    have hf1 := fE c1 hf
    refine ⟨f1, ?_, c2, c3⟩
    simp only [fW, Option.bind_eq_some_iff, Option.map_eq_some_iff] at c1
    obtain ⟨⟨u', f0⟩, k1, ⟨us, f2⟩, k2, k3⟩ := c1
    cases k3
    simp only [step, k1, Option.bind_some, k2]
    rw [if_pos, h2]
    ·rfl
    ·cases ho : T.pu g with
     | true => simp
     | false =>
       rw [ho] at hc
       have := l6 hf1 a1 c2 c3 (hv rfl) (by simpa using hc) (fE ha hn)
       simp [this]
   ·cases h
 | cam tbl x xs =>
   simp only [step, Option.bind_eq_some_iff] at h
   obtain ⟨⟨u, e0⟩, h0, h⟩ := h
   cases u <;> try cases h
   rename_i t u
   simp only at h
   split at h
   ·rename_i g hlk
    simp only [Option.bind_eq_some_iff] at h
    obtain ⟨⟨vs, e1⟩, h1, h⟩ := h
    split at h
    ·rename_i hc
     obtain ⟨⟨q, K⟩, h2, h3⟩ := Option.map_eq_some_iff.1 h
     cases h3
     have ha : fW (x :: xs) e = some (V.ifc t u :: vs, e1) := by simp only [fW, h0, Option.bind_some, h1, Option.map_some]
     obtain ⟨a1, a2⟩ := l0 (x :: xs) e _ e1 ha
     simp only [List.flatMap_cons] at a1 a2
     refine ⟨fE ha hn, a1, fun f hf hr hv => ?_⟩
     obtain ⟨f1, c1, c2, c3⟩ := a2 f hr
     have hf1 := fE c1 hf
     refine ⟨f1, ?_, c2, c3⟩
     simp only [fW, Option.bind_eq_some_iff, Option.map_eq_some_iff] at c1
     obtain ⟨⟨u', f0⟩, k1, ⟨us, f2⟩, k2, k3⟩ := c1
     cases k3
     simp only [step, k1, Option.bind_some, k2, hlk]
     rw [if_pos, h2]
     ·rfl
     ·cases ho : T.pu g with
      | true => simp
      | false =>
        rw [ho] at hc
        have := l6 hf1 a1 c2 c3 (hv rfl) (by simpa using hc) (fE ha hn)
        simp [this]
    ·cases h
   ·cases h
structure RowLoc (T : Orc) (s : Option Nat) (r : iQ) (e : aX) (H : aB) (e' : aX) (H' : aB) : Prop where
 nodup : (dE e').Nodup
 out : ∀ t, t ∉ lY r → eget e' t = eget e t
 same : ∀ f, (dE f).Nodup → (∀ t ∈ mT r, eget f t = eget e t) → (chk T r.2.2 = true → K0 f e) → ∃ f', kG T s r f H = some (f', H') ∧ (∀ t, t ∉ lY r → eget f' t = eget f t) ∧ ∀ t ∈ lY r, eget f' t = eget e' t
theorem qM (e : aX) (d : Option Nat) (v : V) (t : Nat) : eget (nM e d v) t = if d = some t then some v else eget e t := by
 cases d with
 | none => simp [nM]
 | some d =>
   simp only [nM, tY, Option.some.injEq]
   by_cases h : t = d
   ·subst h; simp
   ·rw [if_neg h, if_neg (Ne.symm h)]
theorem mH (e : aX) (d : Option Nat) (t : Nat) : eget (U1 e d) t = if d = some t then some (.tup []) else eget e t := qM e d _ t
theorem K2 {e : aX} (d : Option Nat) (v : V) (h : (dE e).Nodup) : (dE (nM e d v)).Nodup := by
 cases d with
 | none => exact h
 | some d => exact J9 d v h
theorem K3 {e : aX} (d : Option Nat) (h : (dE e).Nodup) : (dE (U1 e d)).Nodup := K2 d _ h
theorem aFu (i : I) : ∀ t, t ∈ iW i → t ∈ iR i := by
 have hx : ∀ xs : List X, ∀ t, t ∈ xs.flatMap xw → t ∈ xs.flatMap xr := fun xs t h => by
  obtain ⟨x, h1, h2⟩ := List.mem_flatMap.1 h
  exact List.mem_flatMap.2 ⟨x, h1, vE x t h2⟩
 intro t h
 cases i <;> simp only [iW, iR, List.mem_append] at h ⊢
 ·exact vE _ t h
 ·exact hx _ t h
 ·exact h.imp (fun k => k.imp (vE _ t) (vE _ t)) (vE _ t)
 ·exact h
 ·exact hx _ t h
 ·exact h.imp (vE _ t) (hx _ t)
 ·exact h.imp (vE _ t) (hx _ t)
theorem aHh {T : Orc} {s : Option Nat} {d : Option Nat} {g : Option (Nat × Bool)} {i : I} {e e' : aX} {H H' : aB} {v : V} (h : step T s i e H = some (v, e', H')) (hn : (dE e).Nodup) :
 (dE (nM e' d v)).Nodup ∧ (∀ t, t ∉ lY (d, g, i) → eget (nM e' d v) t = eget e t) ∧ ∀ f, (dE f).Nodup → (∀ t ∈ mT (d, g, i), eget f t = eget e t) → (chk T i = true → K0 f e) →
  ∃ f', step T s i f H = some (v, f', H') ∧ (∀ t, t ∉ lY (d, g, i) → eget (nM f' d v) t = eget f t) ∧ ∀ t ∈ lY (d, g, i), eget (nM f' d v) t = eget (nM e' d v) t := by
 obtain ⟨a1, a2, a3⟩ := aLt h hn
 refine ⟨K2 d v a1, fun t ht => ?_, fun f hf hr hv => ?_⟩
 ·simp only [lY, List.mem_append, not_or, Option.mem_toList] at ht
  rw [qM, if_neg (fun k => ht.2 k)]; exact a2 t ht.1
 ·obtain ⟨f1, c1, c2, c3⟩ := a3 f hf (fun t ht => hr t (List.mem_append_left _ ht)) hv
  refine ⟨f1, c1, fun t ht => ?_, fun t ht => ?_⟩
  ·simp only [lY, List.mem_append, not_or, Option.mem_toList] at ht
   rw [qM, if_neg (fun k => ht.2 k)]; exact c2 t ht.1
  ·simp only [lY, List.mem_append, Option.mem_toList] at ht
   rw [qM, qM]
   by_cases hd : d = some t
   ·rw [if_pos hd, if_pos hd]
   ·rw [if_neg hd, if_neg hd]
    exact c3 t (ht.resolve_right hd)
theorem jN {T : Orc} {s : Option Nat} {r : iQ} {e e' : aX} {H H' : aB} (h : kG T s r e H = some (e', H')) (hn : (dE e).Nodup) : RowLoc T s r e H e' H' := by
 obtain ⟨d, g, i⟩ := r
 cases g with
 | none =>
   obtain ⟨⟨v, e1, H1⟩, h1, h2⟩ := Option.map_eq_some_iff.1 (show (step T s i e H).map (fun r => (nM r.2.1 d r.1, r.2.2)) = some (e', H') from h)
   cases h2
   obtain ⟨a1, a2, a3⟩ := aHh (d := d) (g := none) h1 hn
   refine ⟨a1, a2, fun f hf hr hv => ?_⟩
   obtain ⟨f1, c1, c2, c3⟩ := a3 f hf hr hv
   exact ⟨nM f1 d v, by show (step T s i f H).map _ = _; rw [c1]; rfl, c2, c3⟩
 | some gw =>
   obtain ⟨g, want⟩ := gw
   simp only [kG] at h
   cases hc : eget e g with
   | none => rw [hc] at h; cases h
   | some v =>
     rw [hc] at h
     have hgR : g ∈ mT (d, some (g, want), i) := by simp [mT]
     cases v <;> try cases h
     case tup.refl vs =>
      refine ⟨K3 d hn, fun t ht => ?_, fun f hf hr hv => ⟨U1 f d, ?_, fun t ht => ?_, fun t ht => ?_⟩⟩
      ·simp only [lY, List.mem_append, not_or, Option.mem_toList] at ht
       rw [mH, if_neg (fun k => ht.2 k)]
      ·simp only [kG, hr g hgR, hc]
      ·simp only [lY, List.mem_append, not_or, Option.mem_toList] at ht
       rw [mH, if_neg (fun k => ht.2 k)]
      ·simp only [lY, List.mem_append, Option.mem_toList] at ht
       rw [mH, mH]
       by_cases hd : d = some t
       ·rw [if_pos hd, if_pos hd]
       ·rw [if_neg hd, if_neg hd]
        exact hr t (List.mem_append_left _ (aFu i t (ht.resolve_right hd)))
     rename_i c
     simp only at h
     by_cases hcw : c = want
     ·rw [if_pos hcw] at h
      obtain ⟨⟨v, e1, H1⟩, h1, h2⟩ := Option.map_eq_some_iff.1 h
      cases h2
      obtain ⟨a1, a2, a3⟩ := aHh (d := d) (g := some (g, want)) h1 hn
      refine ⟨a1, a2, fun f hf hr hv => ?_⟩
      obtain ⟨f1, c1, c2, c3⟩ := a3 f hf hr hv
      refine ⟨nM f1 d v, ?_, c2, c3⟩
      simp only [kG, hr g hgR, hc, if_pos hcw, c1, Option.map_some]
     ·rw [if_neg hcw] at h
      cases h
      refine ⟨K3 d hn, fun t ht => ?_, fun f hf hr hv => ⟨U1 f d, ?_, fun t ht => ?_, fun t ht => ?_⟩⟩
      ·simp only [lY, List.mem_append, not_or, Option.mem_toList] at ht
       rw [mH, if_neg (fun k => ht.2 k)]
      ·simp only [kG, hr g hgR, hc, if_neg hcw]
      ·simp only [lY, List.mem_append, not_or, Option.mem_toList] at ht
       rw [mH, if_neg (fun k => ht.2 k)]
      ·simp only [lY, List.mem_append, Option.mem_toList] at ht
       rw [mH, mH]
       by_cases hd : d = some t
       ·rw [if_pos hd, if_pos hd]
       ·rw [if_neg hd, if_neg hd]
        exact hr t (List.mem_append_left _ (aFu i t (ht.resolve_right hd)))
theorem T9 {e f : aX} (h : EEq e f) : K0 f e := fun t v hv => .inr (by rw [h t]; exact hv)
theorem aQ1 {T : Orc} {s : Option Nat} {r : iQ} {e e' f : aX} {H H' : aB} (h : kG T s r e H = some (e', H')) (hn : (dE e).Nodup) (hf : (dE f).Nodup) (k : EEq e f) :
 ∃ f', kG T s r f H = some (f', H') ∧ EEq e' f' := by
 obtain ⟨a1, a2, a3⟩ := jN h hn
 obtain ⟨f', c1, c2, c3⟩ := a3 f hf (fun t _ => (k t).symm) fun _ => T9 k
 refine ⟨f', c1, fun t => ?_⟩
 by_cases hw : t ∈ lY r
 ·exact (c3 t hw).symm
 ·rw [a2 t hw, c2 t hw]; exact k t
theorem aDv {T : Orc} {s : Option Nat} : ∀ {rs : List iQ} {e e' f : aX} {H H' : aB}, kH T s rs e H = some (e', H') → (dE e).Nodup → (dE f).Nodup → EEq e f → ∃ f', kH T s rs f H = some (f', H') ∧ EEq e' f'
 | [], e, e', f, H, H', h, _, _, k => by
   cases h
   exact ⟨f, rfl, k⟩
 | r :: rs, e, e', f, H, H', h, hn, hf, k => by
   obtain ⟨⟨e1, H1⟩, h1, h2⟩ := Option.bind_eq_some_iff.1 (show (kG T s r e H).bind (fun q => kH T s rs q.1 q.2) = some (e', H') from h)
   obtain ⟨f1, c1, c2⟩ := aQ1 h1 hn hf k
   obtain ⟨f', d1, d2⟩ := aDv h2 (jN h1 hn).nodup (jN c1 hf).nodup c2
   exact ⟨f', by show (kG T s r f H).bind _ = _; rw [c1]; exact d1, d2⟩
theorem K4 {T : Orc} {s : Option Nat} : ∀ {rs : List iQ} {e e' : aX} {H H' : aB}, kH T s rs e H = some (e', H') → (dE e).Nodup → (dE e').Nodup
 | [], e, e', H, H', h, hn => by cases h; exact hn
 | r :: rs, e, e', H, H', h, hn => by
   obtain ⟨⟨e1, H1⟩, h1, h2⟩ := Option.bind_eq_some_iff.1 (show (kG T s r e H).bind (fun q => kH T s rs q.1 q.2) = some (e', H') from h)
   exact K4 h2 (jN h1 hn).nodup
theorem t8 {T : Orc} {s : Option Nat} {t : Nat} : ∀ {rs : List iQ} {e e' : aX} {H H' : aB}, kH T s rs e H = some (e', H') → (dE e).Nodup → (∀ r ∈ rs, t ∉ lY r) → eget e' t = eget e t
 | [], e, e', H, H', h, hn, _ => by cases h; rfl
 | r :: rs, e, e', H, H', h, hn, hw => by
   obtain ⟨⟨e1, H1⟩, h1, h2⟩ := Option.bind_eq_some_iff.1 (show (kG T s r e H).bind (fun q => kH T s rs q.1 q.2) = some (e', H') from h)
   have k := jN h1 hn
   rw [t8 h2 k.nodup fun r' hr' => hw r' (List.mem_cons_of_mem _ hr')]
   exact k.out t (hw r (List.mem_cons_self ..))
end Go.Abs
namespace Go.Abs
theorem tH {pure : FuncId → Bool} {o : O} {xs : List X} : jD pure (.op o xs) = match o with
 | .ld | .ldn _ | .lv | .app .. => .R
 | .box _ | .alc _ | .mks .. => .A
 | .st | .stn _ => .W
 | .apv .. | .apg .. | .clr .. | .cpy _ => .U
 | _ => .S := rfl
theorem dN {α : Type} {x : Option V} {H : aB} {r : V} {H' : aB} (h : x.map (·, H) = some (r, H')) : x = some r ∧ H' = H := by
 obtain ⟨u, hu, e⟩ := Option.map_eq_some_iff.1 h
 cases e
 exact ⟨hu, rfl⟩
theorem aQ9 {pure : FuncId → Bool} {s : Option Nat} {o : O} {xs : List X} {vs : List V} {H H' : aB} {r : V} (hc : jD pure (.op o xs) = .S) (h : apply s o vs H = some (r, H')) : H' = H ∧ ∀ G, apply s o vs G = some (r, G) := by
 rw [tH] at hc
 cases o <;> simp only at hc <;> try cases hc
 all_goals simp only [apply] at h ⊢
 all_goals first
  | (cases h; done)
  | (obtain ⟨h1, h2⟩ := dN (α := V) h; exact ⟨h2, fun G => by rw [h1]; rfl⟩)
  | (obtain ⟨u, hu, e⟩ := Option.map_eq_some_iff.1 h; cases e; exact ⟨rfl, fun G => by rw [hu]; rfl⟩)
  | (split at h
     ·rename_i hh
      first
       | (cases h; exact ⟨rfl, fun G => by rw [if_pos hh]⟩)
       | (obtain ⟨u, hu, e⟩ := Option.map_eq_some_iff.1 h; cases e; exact ⟨rfl, fun G => by rw [if_pos hh, hu]; rfl⟩)
     ·cases h)
  | (cases h; exact ⟨rfl, fun G => rfl⟩)
theorem aQa {pure : FuncId → Bool} {s : Option Nat} {o : O} {xs : List X} {vs : List V} {H H' : aB} {r : V} (hc : jD pure (.op o xs) = .R) (h : apply s o vs H = some (r, H')) : H' = H := by
 rw [tH] at hc
 cases o <;> simp only at hc <;> try cases hc
 all_goals simp only [apply] at h
 all_goals exact (dN (α := V) h).2
theorem aQb {pure : FuncId → Bool} {s : Option Nat} {o : O} {xs : List X} {vs : List V} {H H' : aB} {r : V} (hc : jD pure (.op o xs) = .A) (h : apply s o vs H = some (r, H')) : ∃ x, H' = H ++ [x] := by
 rw [tH] at hc
 cases o <;> simp only at hc <;> try cases hc
 ·simp only [apply] at h
  unfold aIm at h
  split at h
  ·split at h
   ·cases h; exact ⟨_, rfl⟩
   ·cases h
  ·cases h
 ·simp only [apply] at h
  split at h
  ·cases h; exact ⟨_, rfl⟩
  ·cases h
 ·simp only [apply] at h
  unfold aG6 at h
  split at h
  ·split at h
   ·cases h; exact ⟨_, rfl⟩
   ·cases h
  ·cases h
theorem zB {H X : aB} {id o n : Nat} {cs : List V} (h : cL H id o n = some cs) : cL (H ++ X) id o n = some cs := by
 unfold cL at h ⊢
 obtain ⟨ds, h1, h2⟩ := Option.bind_eq_some_iff.1 h
 have hlt : id < H.length := (List.getElem?_eq_some_iff.1 h1).1
 rw [List.getElem?_append_left hlt, h1]
 exact h2
theorem C0 {H X : aB} {id o : Nat} {v : V} (h : pS H id o = some v) : pS (H ++ X) id o = some v := by
 unfold pS at h ⊢
 obtain ⟨ds, h1, h2⟩ := Option.bind_eq_some_iff.1 h
 have hlt : id < H.length := (List.getElem?_eq_some_iff.1 h1).1
 rw [List.getElem?_append_left hlt, h1]
 exact h2
theorem aE4 {sz : Nat} {x : V} {H X : aB} {q : Nat × List V} (h : pT sz x H = some q) : pT sz x (H ++ X) = some q := by
 unfold pT at h ⊢
 split at h
 ·exact h
 ·obtain ⟨ds, h1, h2⟩ := Option.map_eq_some_iff.1 h
  simp only [zB h1, Option.map_some, h2]
 ·exact h
 ·exact h
 ·cases h
theorem E2 {sz bytes : Nat} {s x r : V} {H X : aB} (h : eH sz bytes s x H = some r) : eH sz bytes s x (H ++ X) = some r := by
 unfold eH at h ⊢
 split at h
 ·split at h
  ·rename_i hh
   obtain ⟨q, h1, h2⟩ := Option.bind_eq_some_iff.1 h
   rw [if_pos hh, aE4 h1]
   exact h2
  ·cases h
 ·cases h
theorem aE5 {pure : FuncId → Bool} {s : Option Nat} {o : O} {xs : List X} {vs : List V} {H H' X : aB} {r : V} (hc : jD pure (.op o xs) = .R) (h : apply s o vs H = some (r, H')) : apply s o vs (H ++ X) = some (r, H ++ X) := by
 rw [tH] at hc
 cases o <;> simp only at hc <;> try cases hc
 all_goals simp only [apply] at h ⊢
 all_goals obtain ⟨h1, h2⟩ := dN (α := V) h
 ·unfold aLd at h1 ⊢
  split at h1
  ·obtain ⟨u, hu, e⟩ := Option.map_eq_some_iff.1 h1
   simp only [C0 hu, Option.map_some, e]
  ·simp only [h1, Option.map_some]
  ·cases h1
 ·unfold E1 at h1 ⊢
  split at h1
  ·obtain ⟨u, hu, e⟩ := Option.map_eq_some_iff.1 h1
   simp only [zB hu, Option.map_some, e]
  ·simp only [h1, Option.map_some]
  ·cases h1
 ·unfold aLv at h1 ⊢
  split at h1
  ·obtain ⟨u, hu, e⟩ := Option.map_eq_some_iff.1 h1
   simp only [C0 hu, Option.map_some, e]
  ·simp only [h1, Option.map_some]
  ·cases h1
 ·unfold aQ6 at h1 ⊢
  split at h1
  ·simp only [E2 h1, Option.map_some]
  ·cases h1
def L8 (e : aX) (t n : Nat) (H G : aB) : Prop := ∀ id o, eget e t = some (.ptr id o) → cL G id o n = cL H id o n
theorem rW (H : aB) (id o : Nat) : pS H id o = (cL H id o 1).bind (·[0]?) := by
 unfold pS cL
 cases h : H[id]? with
 | none => rfl
 | some cs =>
   simp only [Option.bind_some]
   by_cases hl : o + 1 ≤ cs.length
   ·rw [if_pos hl, Option.bind_some, List.getElem?_take, if_pos (by omega), List.getElem?_drop, Nat.add_zero]
   ·rw [if_neg hl, Option.bind_none]
    exact List.getElem?_eq_none (by omega)
theorem vK {u : V} {id o : Nat} (h : u.dis = .ptr id o) : u = .ptr id o := by cases u <;> first | exact h | cases h
theorem aQc {pure : FuncId → Bool} {T : Orc} {s : Option Nat} {i : I} {t n : Nat} {e e' : aX} {H H' G : aB} {v : V} (hc : jD pure i = .R) (hp : place i = some (t, n)) (h : step T s i e H = some (v, e', H')) (hs : L8 e t n H G) :
 step T s i e G = some (v, e', G) := by
 cases i <;> try (simp [jD] at hc; done)
 case call f xs nw => simp only [jD] at hc; split at hc <;> cases hc
 rename_i o xs
 obtain ⟨rfl, hk⟩ : xs = [.t t] ∧ (o = .ld ∧ n = 1 ∨ o = .lv ∧ n = 1 ∨ o = .ldn n) := by
  rw [tH] at hc
  unfold place at hp
  split at hp <;> simp_all
 simp only [step, fW, gZ, Option.bind_eq_some_iff, Option.map_eq_some_iff] at h
 obtain ⟨⟨vs, e1⟩, ⟨q, ⟨u, hu, rfl⟩, ⟨vs', e2⟩, h1, h2⟩, h3⟩ := h
 cases h1
 cases h2
 have hw : o.writes = false := by rcases hk with ⟨rfl, _⟩ | ⟨rfl, _⟩ | rfl <;> rfl
 rw [hw] at h3
 simp only [Bool.not_false, Bool.true_or, if_true] at h3
 obtain ⟨⟨r, K⟩, h4, h5⟩ := Option.map_eq_some_iff.1 h3
 cases h5
 simp only [step, fW, gZ, hu, Option.map_some, Option.bind_some, hw, Bool.not_false, Bool.true_or, if_true]
 have key : apply s o [u.dis] G = some (r, G) := by
  rcases hk with ⟨rfl, rfl⟩ | ⟨rfl, rfl⟩ | rfl
  ·simp only [apply] at h4 ⊢
   obtain ⟨h5, h6⟩ := dN (α := V) h4
   unfold aLd at h5 ⊢
   split at h5
   ·rename_i id o hd
    simp only [List.cons.injEq, and_true] at hd
    have := hs id o (by rw [hu]; exact congrArg some (vK hd))
    rw [rW, this, ← rW, h5]; rfl
   ·rename_i cs j hd
    simp only [List.cons.injEq, and_true] at hd
    simp only [hd, h5, Option.map_some]
   ·cases h5
  ·simp only [apply] at h4 ⊢
   obtain ⟨h5, h6⟩ := dN (α := V) h4
   unfold aLv at h5 ⊢
   split at h5
   ·rename_i id o hd
    simp only [List.cons.injEq, and_true] at hd
    have := hs id o (by rw [hu]; exact congrArg some (vK hd))
    rw [rW, this, ← rW, h5]; rfl
   ·rename_i cs j hd
    simp only [List.cons.injEq, and_true] at hd
    simp only [hd, h5, Option.map_some]
   ·cases h5
  ·simp only [apply] at h4 ⊢
   obtain ⟨h5, h6⟩ := dN (α := V) h4
   unfold E1 at h5 ⊢
   split at h5
   ·rename_i id o hd
    simp only [List.cons.injEq, and_true] at hd
    have := hs id o (by rw [hu]; exact congrArg some (vK hd))
    rw [this, h5]; rfl
   ·rename_i cs j hd
    simp only [List.cons.injEq, and_true] at hd
    simp only [hd, h5, Option.map_some]
   ·cases h5
 rw [key]; rfl
theorem L9 {H : aB} {id j p m o n : Nat} {cs ds : List V} (hc : H[id]? = some cs) (hl : ds.length = cs.length) (hs : ∀ k, ¬ (o ≤ k ∧ k < o + n) → ds[k]? = cs[k]?) (ha : id ≠ j ∨ o + n ≤ p ∨ p + m ≤ o) :
 cL (H.set id ds) j p m = cL H j p m := by
 unfold cL
 by_cases hj : id = j
 ·subst hj
  have hlt := (List.getElem?_eq_some_iff.1 hc).1
  rw [List.getElem?_set_self hlt, hc]
  simp only [Option.bind_some, hl]
  by_cases hle : p + m ≤ cs.length
  ·rw [if_pos hle, if_pos hle]
   congr 1
   refine List.ext_getElem? fun k => ?_
   rw [List.getElem?_take, List.getElem?_take]
   by_cases hk : k < m
   ·rw [if_pos hk, if_pos hk, List.getElem?_drop, List.getElem?_drop]
    exact hs _ (by rcases ha with h | h | h <;> omega)
   ·rw [if_neg hk, if_neg hk]
  ·rw [if_neg hle, if_neg hle]
 ·rw [List.getElem?_set_ne hj]
theorem C1 {id o n : Nat} {y : Option V} {j p m : Nat} (hn : ¬ (n = near ∧ m = near)) (h : fH (some (.ptr id o)) n y m = true ∨ fH y m (some (.ptr id o)) n = true) (hy : y = some (.ptr j p)) : id ≠ j ∨ o + n ≤ p ∨ p + m ≤ o := by
 subst hy
 rcases h with h | h
 ·have hc : ¬ ((n == near && m == near) = true) := by simpa using hn
  simp only [fH] at h
  rw [if_neg hc] at h
  simp only [Bool.or_eq_true, Bool.and_eq_true, decide_eq_true_eq] at h
  rcases h with h | ⟨_, h | h⟩
  ·exact .inl h
  ·exact .inr (.inl h)
  ·exact .inr (.inr h)
 ·have hc : ¬ ((m == near && n == near) = true) := by simpa using fun a b => hn ⟨b, a⟩
  simp only [fH] at h
  rw [if_neg hc] at h
  simp only [Bool.or_eq_true, Bool.and_eq_true, decide_eq_true_eq] at h
  rcases h with h | ⟨_, h | h⟩
  ·exact .inl (Ne.symm h)
  ·exact .inr (.inr h)
  ·exact .inr (.inl h)
theorem aQd {pure : FuncId → Bool} {T : Orc} {s : Option Nat} {i : I} {t n u m : Nat} {e f e' : aX} {H H' : aB} {v : V} (hc : jD pure i = .W) (hp : place i = some (t, n)) (h : step T s i e H = some (v, e', H'))
 (hn : ¬ (n = near ∧ m = near)) (ha : fH (eget e t) n (eget f u) m = true ∨ fH (eget f u) m (eget e t) n = true) : L8 f u m H H' := by
 cases i <;> try (simp [jD] at hc; done)
 case call f xs nw => simp only [jD] at hc; split at hc <;> cases hc
 rename_i o xs
 obtain ⟨y, rfl, hk⟩ : ∃ y, xs = [.t t, y] ∧ (o = .st ∧ n = 1 ∨ o = .stn n) := by
  rw [tH] at hc
  unfold place at hp
  split at hp <;> simp_all
 intro j p hu
 simp only [step, fW, gZ, Option.bind_eq_some_iff, Option.map_eq_some_iff] at h
 obtain ⟨⟨vs, e1⟩, ⟨q, ⟨x, hx, rfl⟩, ⟨vs', e2⟩, ⟨z, hz, ⟨ws, e3⟩, h0, h1⟩, h2⟩, h3⟩ := h
 cases h0
 cases h1
 cases h2
 split at h3
 ·obtain ⟨⟨r, K⟩, h4, h5⟩ := Option.map_eq_some_iff.1 h3
  cases h5
  rcases hk with ⟨rfl, rfl⟩ | rfl
  ·simp only [apply] at h4
   unfold aSt at h4
   split at h4
   ·rename_i id o w hd
    simp only [List.cons.injEq, and_true] at hd
    obtain ⟨hd, rfl⟩ := hd
    split at h4
    ·rename_i hh
     cases h4
     simp only [Bool.and_eq_true] at hh
     obtain ⟨c, hc1⟩ := Option.isSome_iff_exists.1 hh.1.2
     unfold pS at hc1
     obtain ⟨cs, h6, h7⟩ := Option.bind_eq_some_iff.1 hc1
     rw [hx, vK hd] at ha
     unfold wJ
     rw [h6]
     refine L9 (n := 1) (o := o) h6 (by simp) (fun k hk => ?_) (C1 hn ha hu)
     rw [Option.getD_some, List.getElem?_set_ne (by omega)]
    ·cases h4
   ·cases h4
  ·simp only [apply] at h4
   unfold aDy at h4
   split at h4
   ·rename_i id o xs hd
    simp only [List.cons.injEq, and_true] at hd
    obtain ⟨hd, hz2⟩ := hd
    split at h4
    ·rename_i hh
     cases h4
     simp only [Bool.and_eq_true, decide_eq_true_eq] at hh
     obtain ⟨⟨hl, hh⟩, _⟩ := hh
     obtain ⟨c, hc1⟩ := Option.isSome_iff_exists.1 hh
     unfold cL at hc1
     obtain ⟨cs, h6, h7⟩ := Option.bind_eq_some_iff.1 hc1
     split at h7
     ·rename_i hle
      rw [hx, vK hd] at ha
      rw [h6, Option.getD_some]
      refine L9 (n := n) (o := o) h6 (by unfold iN; simp; omega) (fun k hk => ?_) (C1 hn ha hu)
      unfold iN
      by_cases hk1 : k < o
      ·rw [List.append_assoc, List.getElem?_append_left (by simp; omega), List.getElem?_take, if_pos hk1]
      ·rw [List.getElem?_append_right (by simp; omega), List.getElem?_drop]
       congr 1
       simp only [List.length_append, List.length_take]
       omega
     ·cases h7
    ·cases h4
   ·cases h4
 ·cases h3
end Go.Abs
