/-
  The machine's rows look at few temporaries and turn few: what a row does hangs on those alone.
-/
import Derived.Test.YtcfefgeheibadaaAbsG
namespace Go.Abs

/-! ### Environments as maps -/
def EEq (e f : Env) : Prop := ∀ t, eget e t = eget f t
theorem EEq.refl (e : Env) : EEq e e := fun _ => rfl
theorem EEq.symm {e f : Env} (h : EEq e f) : EEq f e := fun t => (h t).symm
theorem EEq.trans {e f g : Env} (h : EEq e f) (k : EEq f g) : EEq e g := fun t => (h t).trans (k t)

theorem eget_edel : ∀ (e : Env) (t s : Nat), eget (edel e t) s = if s = t then none else eget e s
  | [], t, s => by simp [edel, eget]
  | (x, v) :: e, t, s => by
    simp only [edel]
    by_cases hx : x = t
    · subst hx
      rw [if_pos rfl, eget_edel e x s]
      by_cases hs : s = x
      · rw [if_pos hs, if_pos hs]
      · rw [if_neg hs, if_neg hs]; simp only [eget]; rw [if_neg (Ne.symm hs)]
    · rw [if_neg hx]
      simp only [eget]
      by_cases hxs : x = s
      · subst hxs; rw [if_pos rfl, if_neg hx, if_pos rfl]
      · rw [if_neg hxs, eget_edel e t s]
        by_cases hs : s = t
        · rw [if_pos hs, if_pos hs]
        · rw [if_neg hs, if_neg hs, if_neg hxs]
theorem eget_eput (e : Env) (t : Nat) (v : V) (s : Nat) : eget (eput e t v) s = if s = t then some v else eget e s := by
  unfold eput
  simp only [eget]
  by_cases hs : t = s
  · subst hs; rw [if_pos rfl, if_pos rfl]
  · rw [if_neg hs, if_neg (Ne.symm hs), eget_edel, if_neg (Ne.symm hs)]
theorem eget_none : ∀ {e : Env} {t : Nat}, eget e t = none ↔ t ∉ keys e
  | [], t => by simp [eget]
  | (x, v) :: e, t => by
    simp only [eget, keys, List.map_cons, List.mem_cons, not_or]
    by_cases hx : x = t
    · subst hx; simp
    · rw [if_neg hx, eget_none (e := e)]
      exact ⟨fun h => ⟨Ne.symm hx, h⟩, fun h => h.2⟩
theorem eget_of_mem : ∀ {e : Env} {t : Nat} {v : V}, (keys e).Nodup → (t, v) ∈ e → eget e t = some v
  | [], _, _, _, h => by cases h
  | (x, u) :: e, t, v, hn, h => by
    simp only [keys, List.map_cons, List.nodup_cons] at hn
    simp only [eget]
    rcases List.mem_cons.1 h with h | h
    · cases h; rw [if_pos rfl]
    · rw [if_neg, eget_of_mem hn.2 h]
      rintro rfl
      exact hn.1 (List.mem_map.2 ⟨(x, v), h, rfl⟩)
theorem nodup_edel {e : Env} (t : Nat) (hn : (keys e).Nodup) : (keys (edel e t)).Nodup := nodup_subl (edel_subl e t) hn
theorem nodup_eput {e : Env} (t : Nat) (v : V) (hn : (keys e).Nodup) : (keys (eput e t v)).Nodup := by
  simp only [eput, keys, List.map_cons, List.nodup_cons]
  refine ⟨fun hm => ?_, nodup_edel t hn⟩
  obtain ⟨p, hp, rfl⟩ := List.mem_map.1 hm
  exact edel_keys hp rfl
theorem perm_of_eeq : ∀ {e f : Env}, (keys e).Nodup → (keys f).Nodup → EEq e f → e.Perm f
  | [], f, _, _, h => by
    cases f with
    | nil => exact .refl _
    | cons p f =>
      have := h p.1
      simp [eget] at this
  | (t, v) :: e, f, he, hf, h => by
    have h1 : eget f t = some v := by rw [← h t]; simp [eget]
    refine List.Perm.trans ?_ (edel_perm hf h1).symm
    refine .cons _ (perm_of_eeq ?_ (nodup_edel t hf) fun s => ?_)
    · simp only [keys, List.map_cons, List.nodup_cons] at he; exact he.2
    · simp only [keys, List.map_cons, List.nodup_cons] at he
      rw [eget_edel]
      by_cases hs : s = t
      · subst hs; rw [if_pos rfl]; exact eget_none.2 he.1
      · rw [if_neg hs, ← h s]; simp only [eget]; rw [if_neg (Ne.symm hs)]
section
variable {P : Program} {lim : Option Nat} {B : Nat} {F : List Nat} {nt : Nat} {S : Nat → Nat → Prop} {bl : List Nat} {e f : Env} {H : Heap} {w : World} {a : Act}
theorem ER.perm (h : ER lim B F nt S bl e H a w) (hp : f.Perm e) : ER lim B F nt S bl f H a w :=
  ⟨((hp.map _).nodup_iff).2 h.nodup, fun p hm => h.bnd p (hp.mem_iff.1 hm), h.st.perm (hp.map _), h.size, h.defers, h.room⟩
theorem ER.eeq (h : ER lim B F nt S bl e H a w) (hf : (keys f).Nodup) (k : EEq e f) : ER lim B F nt S bl f H a w := h.perm (perm_of_eeq hf h.nodup k.symm)
end

/-! ### Locality -/
/-- What A does hangs on the temporaries R alone, and turns W alone. -/
def Loc {α : Type} (A : Env → Option (α × Env)) (R W : List Nat) : Prop :=
  ∀ e v e', A e = some (v, e') → (∀ t, t ∉ W → eget e' t = eget e t) ∧
    ∀ f, (∀ t ∈ R, eget f t = eget e t) → ∃ f', A f = some (v, f') ∧ (∀ t, t ∉ W → eget f' t = eget f t) ∧ ∀ t ∈ W, eget f' t = eget e' t
theorem evX_loc (x : X) : Loc (evX x) (xr x) (xw x) := by
  intro e v e' h
  cases x with
  | t n =>
    obtain ⟨u, hu, e1⟩ := Option.map_eq_some_iff.1 (show (eget e n).map (fun x => (x.dis, e)) = some (v, e') from h)
    cases e1
    refine ⟨fun _ _ => rfl, fun f hf => ⟨f, ?_, fun _ _ => rfl, fun t ht => by simp [xw] at ht⟩⟩
    simp only [evX, hf n (by simp [xr]), hu, Option.map_some]
  | m n =>
    obtain ⟨u, hu, e1⟩ := Option.map_eq_some_iff.1 (show (eget e n).map (fun x => (x, edel e n)) = some (v, e') from h)
    cases e1
    refine ⟨fun t ht => by rw [eget_edel, if_neg]; simpa [xw] using ht, fun f hf => ⟨edel f n, ?_, fun t ht => by rw [eget_edel, if_neg]; simpa [xw] using ht, fun t ht => ?_⟩⟩
    · simp only [evX, hf n (by simp [xr]), hu, Option.map_some]
    · have : t = n := by simpa [xw] using ht
      subst this
      rw [eget_edel, eget_edel, if_pos rfl, if_pos rfl]
  | k u =>
    obtain ⟨rfl, rfl⟩ : u = v ∧ e = e' := by simpa [evX] using h
    exact ⟨fun _ _ => rfl, fun f hf => ⟨f, rfl, fun _ _ => rfl, fun t ht => by simp [xw] at ht⟩⟩
theorem evs_loc : ∀ xs : List X, Loc (evs xs) (xs.flatMap xr) (xs.flatMap xw)
  | [] => by
    intro e v e' h
    obtain ⟨rfl, rfl⟩ : [] = v ∧ e = e' := by simpa [evs] using h
    exact ⟨fun _ _ => rfl, fun f hf => ⟨f, rfl, fun _ _ => rfl, fun t ht => by simp at ht⟩⟩
  | x :: xs => by
    intro e v e' h
    simp only [evs, Option.bind_eq_some_iff, Option.map_eq_some_iff] at h
    obtain ⟨⟨u, e1⟩, h1, ⟨us, e2⟩, h2, h3⟩ := h
    cases h3
    obtain ⟨a1, a2⟩ := evX_loc x e u e1 h1
    obtain ⟨b1, b2⟩ := evs_loc xs e1 us e2 h2
    simp only [List.flatMap_cons, List.mem_append, not_or]
    refine ⟨fun t ht => (b1 t ht.2).trans (a1 t ht.1), fun f hf => ?_⟩
    obtain ⟨f1, c1, c2, c3⟩ := a2 f fun t ht => hf t (.inl ht)
    obtain ⟨f2, d1, d2, d3⟩ := b2 f1 fun t ht => by
      by_cases hw : t ∈ xw x
      · exact c3 t hw
      · rw [c2 t hw, a1 t hw]; exact hf t (.inr ht)
    refine ⟨f2, by simp only [evs, c1, Option.bind_some, d1, Option.map_some], fun t ht => (d2 t ht.2).trans (c2 t ht.1), fun t ht => ?_⟩
    by_cases hw : t ∈ xs.flatMap xw
    · exact d3 t hw
    · rw [d2 t hw, b1 t hw]
      exact c3 t (ht.resolve_right hw)
theorem evX_nodup {x : X} {e e' : Env} {v : V} (h : evX x e = some (v, e')) (hn : (keys e).Nodup) : (keys e').Nodup := by
  cases x with
  | t n => obtain ⟨u, _, e1⟩ := Option.map_eq_some_iff.1 (show (eget e n).map (fun x => (x.dis, e)) = some (v, e') from h); cases e1; exact hn
  | m n => obtain ⟨u, _, e1⟩ := Option.map_eq_some_iff.1 (show (eget e n).map (fun x => (x, edel e n)) = some (v, e') from h); cases e1; exact nodup_edel _ hn
  | k u => obtain ⟨rfl, rfl⟩ : u = v ∧ e = e' := by simpa [evX] using h
           exact hn
theorem evs_nodup : ∀ {xs : List X} {e e' : Env} {vs : List V}, evs xs e = some (vs, e') → (keys e).Nodup → (keys e').Nodup
  | [], e, e', vs, h, hn => by
    obtain ⟨rfl, rfl⟩ : [] = vs ∧ e = e' := by simpa [evs] using h
    exact hn
  | x :: xs, e, e', vs, h, hn => by
    simp only [evs, Option.bind_eq_some_iff, Option.map_eq_some_iff] at h
    obtain ⟨⟨u, e1⟩, h1, ⟨us, e2⟩, h2, h3⟩ := h
    cases h3
    exact evs_nodup h2 (evX_nodup h1 hn)

/-- No slice just read from a cell is in f that is not in e. -/
def viaSub (f e : Env) : Prop := ∀ t v, eget f t = some v → v.noVia = true ∨ eget e t = some v
theorem calm_get {e : Env} (hn : (keys e).Nodup) : calm e = true ↔ ∀ t v, eget e t = some v → v.noVia = true :=
  calm_iff.trans ⟨fun h t v hv => h _ (eget_mem hv), fun h p hp => h p.1 p.2 (eget_of_mem hn hp)⟩
theorem calm_loc {e e1 f f1 : Env} {W : List Nat} (hf : (keys f1).Nodup) (he : ∀ t, t ∉ W → eget e1 t = eget e t) (k1 : ∀ t, t ∉ W → eget f1 t = eget f t) (k2 : ∀ t ∈ W, eget f1 t = eget e1 t)
    (hs : viaSub f e) (hc : calm e1 = true) (hn : (keys e1).Nodup) : calm f1 = true := by
  refine (calm_get hf).2 fun t v hv => ?_
  by_cases hw : t ∈ W
  · rw [k2 t hw] at hv
    exact (calm_get hn).1 hc t v hv
  · rw [k1 t hw] at hv
    rcases hs t v hv with h | h
    · exact h
    · rw [← he t hw] at h
      exact (calm_get hn).1 hc t v h

/-- Does a row look whether slices just read from cells are at hand? -/
def chk (T : Orc) : I → Bool
  | .op o _ => o.writes
  | .call f _ _ => !T.pu f
  | .cav .. | .cam .. => true
  | _ => false

structure StepLoc (T : Orc) (s : Option Nat) (i : I) (e : Env) (H : Heap) (v : V) (e' : Env) (H' : Heap) : Prop where
  nodup : (keys e').Nodup
  out : ∀ t, t ∉ iW i → eget e' t = eget e t
  same : ∀ f, (keys f).Nodup → (∀ t ∈ iR i, eget f t = eget e t) → (chk T i = true → viaSub f e) → ∃ f', step T s i f H = some (v, f', H') ∧ (∀ t, t ∉ iW i → eget f' t = eget f t) ∧ ∀ t ∈ iW i, eget f' t = eget e' t

theorem xw_sub (x : X) : ∀ t, t ∈ xw x → t ∈ xr x := by cases x <;> simp [xw, xr]
theorem step_loc {T : Orc} {s : Option Nat} {i : I} {e e' : Env} {H H' : Heap} {v : V} (h : step T s i e H = some (v, e', H')) (hn : (keys e).Nodup) : StepLoc T s i e H v e' H' := by
  cases i with
  | mv x =>
    obtain ⟨⟨u, e1⟩, h1, h2⟩ := Option.map_eq_some_iff.1 (show (evX x e).map (fun r => (r.1, r.2, H)) = some (v, e', H') from h)
    cases h2
    obtain ⟨a1, a2⟩ := evX_loc x e u e1 h1
    refine ⟨evX_nodup h1 hn, a1, fun f hf hr _ => ?_⟩
    obtain ⟨f1, c1, c2, c3⟩ := a2 f hr
    exact ⟨f1, by simp only [step, c1, Option.map_some], c2, c3⟩
  | op o xs =>
    simp only [step, Option.bind_eq_some_iff] at h
    obtain ⟨⟨vs, e1⟩, h1, h⟩ := h
    split at h
    · rename_i hc
      obtain ⟨⟨q, K⟩, h2, h3⟩ := Option.map_eq_some_iff.1 h
      cases h3
      obtain ⟨a1, a2⟩ := evs_loc xs e vs e1 h1
      refine ⟨evs_nodup h1 hn, a1, fun f hf hr hv => ?_⟩
      obtain ⟨f1, c1, c2, c3⟩ := a2 f hr
      have hf1 := evs_nodup c1 hf
      refine ⟨f1, ?_, c2, c3⟩
      simp only [step, c1, Option.bind_some]
      rw [if_pos, h2]
      · rfl
      · cases ho : o.writes with
        | false => simp
        | true =>
          rw [ho] at hc
          have := calm_loc hf1 a1 c2 c3 (hv ho) (by simpa using hc) (evs_nodup h1 hn)
          simp [this]
    · cases h
  | pick c x y =>
    simp only [step, Option.bind_eq_some_iff] at h
    obtain ⟨⟨u, e1⟩, h1, h⟩ := h
    cases u <;> try cases h
    rename_i b
    obtain ⟨⟨u, e2⟩, h2, h3⟩ := Option.map_eq_some_iff.1 h
    cases h3
    obtain ⟨a1, a2⟩ := evX_loc c e _ e1 h1
    obtain ⟨b1, b2⟩ := evX_loc (if b then x else y) e1 u e2 h2
    have hw : ∀ t, t ∈ xw (if b then x else y) → t ∈ xw x ++ xw y := by intro t ht; cases b <;> simp_all
    have hr' : ∀ t, t ∈ xr (if b then x else y) → t ∈ xr x ++ xr y := by intro t ht; cases b <;> simp_all
    simp only [List.mem_append] at hw hr'
    refine ⟨evX_nodup h2 (evX_nodup h1 hn), fun t ht => ?_, fun f hf hr _ => ?_⟩
    · simp only [iW, List.mem_append, not_or] at ht
      exact (b1 t fun k => (hw t k).elim ht.1.2 ht.2).trans (a1 t ht.1.1)
    · simp only [iR, List.mem_append] at hr
      obtain ⟨f1, c1, c2, c3⟩ := a2 f fun t ht => hr t (.inl (.inl ht))
      have hr1 : ∀ t, (t ∈ xr x ∨ t ∈ xr y) → eget f1 t = eget e1 t := fun t ht => by
        by_cases hw1 : t ∈ xw c
        · exact c3 t hw1
        · rw [c2 t hw1, a1 t hw1]; exact hr t (ht.elim (fun k => .inl (.inr k)) .inr)
      obtain ⟨f2, d1, d2, d3⟩ := b2 f1 fun t ht => hr1 t (hr' t ht)
      refine ⟨f2, ?_, fun t ht => ?_, fun t ht => ?_⟩
      · simp only [step, c1, Option.bind_some]
        rw [d1]; rfl
      · simp only [iW, List.mem_append, not_or] at ht
        exact (d2 t fun k => (hw t k).elim ht.1.2 ht.2).trans (c2 t ht.1.1)
      · simp only [iW, List.mem_append] at ht
        by_cases k : t ∈ xw (if b then x else y)
        · exact d3 t k
        · rw [d2 t k, b1 t k]
          rcases ht with (ht | ht) | ht
          · exact c3 t ht
          · exact hr1 t (.inl (xw_sub x t ht))
          · exact hr1 t (.inr (xw_sub y t ht))
  | exm j t =>
    simp only [step] at h
    split at h
    · rename_i vs hg
      obtain ⟨u, hu, e1⟩ := Option.map_eq_some_iff.1 h
      cases e1
      refine ⟨nodup_eput _ _ hn, fun x hx => by rw [eget_eput, if_neg]; simpa [iW] using hx, fun f hf hr _ => ?_⟩
      refine ⟨eput f t (.tup (vs.set j v.dis2)), ?_, fun x hx => by rw [eget_eput, if_neg]; simpa [iW] using hx, fun x hx => ?_⟩
      · simp only [step, hr t (by simp [iR]), hg, hu, Option.map_some]
      · have : x = t := by simpa [iW] using hx
        subst this
        rw [eget_eput, eget_eput, if_pos rfl, if_pos rfl]
    · cases h
  | call g xs nw =>
    simp only [step, Option.bind_eq_some_iff] at h
    obtain ⟨⟨vs, e1⟩, h1, h⟩ := h
    split at h
    · rename_i hc
      obtain ⟨⟨q, K⟩, h2, h3⟩ := Option.map_eq_some_iff.1 h
      cases h3
      obtain ⟨a1, a2⟩ := evs_loc xs e vs e1 h1
      refine ⟨evs_nodup h1 hn, a1, fun f hf hr hv => ?_⟩
      obtain ⟨f1, c1, c2, c3⟩ := a2 f hr
      have hf1 := evs_nodup c1 hf
      refine ⟨f1, ?_, c2, c3⟩
      simp only [step, c1, Option.bind_some]
      rw [if_pos, h2]
      · rfl
      · cases ho : T.pu g with
        | true => simp
        | false =>
          rw [ho] at hc
          have := calm_loc hf1 a1 c2 c3 (hv (by simp [chk, ho])) (by simpa using hc) (evs_nodup h1 hn)
          simp [this]
    · cases h
  | cav x xs =>
    simp only [step, Option.bind_eq_some_iff] at h
    obtain ⟨⟨u, e0⟩, h0, h⟩ := h
    cases u <;> try cases h
    rename_i g caps
    simp only [Option.bind_eq_some_iff] at h
    obtain ⟨⟨vs, e1⟩, h1, h⟩ := h
    split at h
    · rename_i hc
      obtain ⟨⟨q, K⟩, h2, h3⟩ := Option.map_eq_some_iff.1 h
      cases h3
      have ha : evs (x :: xs) e = some (V.fn g caps :: vs, e1) := by simp only [evs, h0, Option.bind_some, h1, Option.map_some]
      obtain ⟨a1, a2⟩ := evs_loc (x :: xs) e _ e1 ha
      simp only [List.flatMap_cons] at a1 a2
      refine ⟨evs_nodup ha hn, a1, fun f hf hr hv => ?_⟩
      obtain ⟨f1, c1, c2, c3⟩ := a2 f hr
      have hf1 := evs_nodup c1 hf
      refine ⟨f1, ?_, c2, c3⟩
      simp only [evs, Option.bind_eq_some_iff, Option.map_eq_some_iff] at c1
      obtain ⟨⟨u', f0⟩, k1, ⟨us, f2⟩, k2, k3⟩ := c1
      cases k3
      simp only [step, k1, Option.bind_some, k2]
      rw [if_pos, h2]
      · rfl
      · cases ho : T.pu g with
        | true => simp
        | false =>
          rw [ho] at hc
          have := calm_loc hf1 a1 c2 c3 (hv rfl) (by simpa using hc) (evs_nodup ha hn)
          simp [this]
    · cases h
  | cam tbl x xs =>
    simp only [step, Option.bind_eq_some_iff] at h
    obtain ⟨⟨u, e0⟩, h0, h⟩ := h
    cases u <;> try cases h
    rename_i t u
    simp only at h
    split at h
    · rename_i g hlk
      simp only [Option.bind_eq_some_iff] at h
      obtain ⟨⟨vs, e1⟩, h1, h⟩ := h
      split at h
      · rename_i hc
        obtain ⟨⟨q, K⟩, h2, h3⟩ := Option.map_eq_some_iff.1 h
        cases h3
        have ha : evs (x :: xs) e = some (V.ifc t u :: vs, e1) := by simp only [evs, h0, Option.bind_some, h1, Option.map_some]
        obtain ⟨a1, a2⟩ := evs_loc (x :: xs) e _ e1 ha
        simp only [List.flatMap_cons] at a1 a2
        refine ⟨evs_nodup ha hn, a1, fun f hf hr hv => ?_⟩
        obtain ⟨f1, c1, c2, c3⟩ := a2 f hr
        have hf1 := evs_nodup c1 hf
        refine ⟨f1, ?_, c2, c3⟩
        simp only [evs, Option.bind_eq_some_iff, Option.map_eq_some_iff] at c1
        obtain ⟨⟨u', f0⟩, k1, ⟨us, f2⟩, k2, k3⟩ := c1
        cases k3
        simp only [step, k1, Option.bind_some, k2, hlk]
        rw [if_pos, h2]
        · rfl
        · cases ho : T.pu g with
          | true => simp
          | false =>
            rw [ho] at hc
            have := calm_loc hf1 a1 c2 c3 (hv rfl) (by simpa using hc) (evs_nodup ha hn)
            simp [this]
      · cases h
    · cases h

/-- Likewise of a row. -/
structure RowLoc (T : Orc) (s : Option Nat) (r : Row) (e : Env) (H : Heap) (e' : Env) (H' : Heap) : Prop where
  nodup : (keys e').Nodup
  out : ∀ t, t ∉ rowW r → eget e' t = eget e t
  same : ∀ f, (keys f).Nodup → (∀ t ∈ rowR r, eget f t = eget e t) → (chk T r.2.2 = true → viaSub f e) → ∃ f', op1 T s r f H = some (f', H') ∧ (∀ t, t ∉ rowW r → eget f' t = eget f t) ∧ ∀ t ∈ rowW r, eget f' t = eget e' t
theorem eget_putD (e : Env) (d : Option Nat) (v : V) (t : Nat) : eget (putD e d v) t = if d = some t then some v else eget e t := by
  cases d with
  | none => simp [putD]
  | some d =>
    simp only [putD, eget_eput, Option.some.injEq]
    by_cases h : t = d
    · subst h; simp
    · rw [if_neg h, if_neg (Ne.symm h)]
theorem eget_delD (e : Env) (d : Option Nat) (t : Nat) : eget (delD e d) t = if d = some t then some (.tup []) else eget e t := eget_putD e d _ t
theorem nodup_putD {e : Env} (d : Option Nat) (v : V) (h : (keys e).Nodup) : (keys (putD e d v)).Nodup := by
  cases d with
  | none => exact h
  | some d => exact nodup_eput d v h
theorem nodup_delD {e : Env} (d : Option Nat) (h : (keys e).Nodup) : (keys (delD e d)).Nodup := nodup_putD d _ h
theorem iW_sub (i : I) : ∀ t, t ∈ iW i → t ∈ iR i := by
  have hx : ∀ xs : List X, ∀ t, t ∈ xs.flatMap xw → t ∈ xs.flatMap xr := fun xs t h => by
    obtain ⟨x, h1, h2⟩ := List.mem_flatMap.1 h
    exact List.mem_flatMap.2 ⟨x, h1, xw_sub x t h2⟩
  intro t h
  cases i <;> simp only [iW, iR, List.mem_append] at h ⊢
  · exact xw_sub _ t h
  · exact hx _ t h
  · exact h.imp (fun k => k.imp (xw_sub _ t) (xw_sub _ t)) (xw_sub _ t)
  · exact h
  · exact hx _ t h
  · exact h.imp (xw_sub _ t) (hx _ t)
  · exact h.imp (xw_sub _ t) (hx _ t)
theorem act_loc {T : Orc} {s : Option Nat} {d : Option Nat} {g : Option (Nat × Bool)} {i : I} {e e' : Env} {H H' : Heap} {v : V} (h : step T s i e H = some (v, e', H')) (hn : (keys e).Nodup) :
    (keys (putD e' d v)).Nodup ∧ (∀ t, t ∉ rowW (d, g, i) → eget (putD e' d v) t = eget e t) ∧ ∀ f, (keys f).Nodup → (∀ t ∈ rowR (d, g, i), eget f t = eget e t) → (chk T i = true → viaSub f e) →
      ∃ f', step T s i f H = some (v, f', H') ∧ (∀ t, t ∉ rowW (d, g, i) → eget (putD f' d v) t = eget f t) ∧ ∀ t ∈ rowW (d, g, i), eget (putD f' d v) t = eget (putD e' d v) t := by
  obtain ⟨a1, a2, a3⟩ := step_loc h hn
  refine ⟨nodup_putD d v a1, fun t ht => ?_, fun f hf hr hv => ?_⟩
  · simp only [rowW, List.mem_append, not_or, Option.mem_toList] at ht
    rw [eget_putD, if_neg (fun k => ht.2 k)]; exact a2 t ht.1
  · obtain ⟨f1, c1, c2, c3⟩ := a3 f hf (fun t ht => hr t (List.mem_append_left _ ht)) hv
    refine ⟨f1, c1, fun t ht => ?_, fun t ht => ?_⟩
    · simp only [rowW, List.mem_append, not_or, Option.mem_toList] at ht
      rw [eget_putD, if_neg (fun k => ht.2 k)]; exact c2 t ht.1
    · simp only [rowW, List.mem_append, Option.mem_toList] at ht
      rw [eget_putD, eget_putD]
      by_cases hd : d = some t
      · rw [if_pos hd, if_pos hd]
      · rw [if_neg hd, if_neg hd]
        exact c3 t (ht.resolve_right hd)
theorem op1_loc {T : Orc} {s : Option Nat} {r : Row} {e e' : Env} {H H' : Heap} (h : op1 T s r e H = some (e', H')) (hn : (keys e).Nodup) : RowLoc T s r e H e' H' := by
  obtain ⟨d, g, i⟩ := r
  cases g with
  | none =>
    obtain ⟨⟨v, e1, H1⟩, h1, h2⟩ := Option.map_eq_some_iff.1 (show (step T s i e H).map (fun r => (putD r.2.1 d r.1, r.2.2)) = some (e', H') from h)
    cases h2
    obtain ⟨a1, a2, a3⟩ := act_loc (d := d) (g := none) h1 hn
    refine ⟨a1, a2, fun f hf hr hv => ?_⟩
    obtain ⟨f1, c1, c2, c3⟩ := a3 f hf hr hv
    exact ⟨putD f1 d v, by show (step T s i f H).map _ = _; rw [c1]; rfl, c2, c3⟩
  | some gw =>
    obtain ⟨g, want⟩ := gw
    simp only [op1] at h
    cases hc : eget e g with
    | none => rw [hc] at h; cases h
    | some v =>
      rw [hc] at h
      have hgR : g ∈ rowR (d, some (g, want), i) := by simp [rowR]
      cases v <;> try cases h
      case tup.refl vs =>
        refine ⟨nodup_delD d hn, fun t ht => ?_, fun f hf hr hv => ⟨delD f d, ?_, fun t ht => ?_, fun t ht => ?_⟩⟩
        · simp only [rowW, List.mem_append, not_or, Option.mem_toList] at ht
          rw [eget_delD, if_neg (fun k => ht.2 k)]
        · simp only [op1, hr g hgR, hc]
        · simp only [rowW, List.mem_append, not_or, Option.mem_toList] at ht
          rw [eget_delD, if_neg (fun k => ht.2 k)]
        · simp only [rowW, List.mem_append, Option.mem_toList] at ht
          rw [eget_delD, eget_delD]
          by_cases hd : d = some t
          · rw [if_pos hd, if_pos hd]
          · rw [if_neg hd, if_neg hd]
            exact hr t (List.mem_append_left _ (iW_sub i t (ht.resolve_right hd)))
      rename_i c
      simp only at h
      by_cases hcw : c = want
      · rw [if_pos hcw] at h
        obtain ⟨⟨v, e1, H1⟩, h1, h2⟩ := Option.map_eq_some_iff.1 h
        cases h2
        obtain ⟨a1, a2, a3⟩ := act_loc (d := d) (g := some (g, want)) h1 hn
        refine ⟨a1, a2, fun f hf hr hv => ?_⟩
        obtain ⟨f1, c1, c2, c3⟩ := a3 f hf hr hv
        refine ⟨putD f1 d v, ?_, c2, c3⟩
        simp only [op1, hr g hgR, hc, if_pos hcw, c1, Option.map_some]
      · rw [if_neg hcw] at h
        cases h
        refine ⟨nodup_delD d hn, fun t ht => ?_, fun f hf hr hv => ⟨delD f d, ?_, fun t ht => ?_, fun t ht => ?_⟩⟩
        · simp only [rowW, List.mem_append, not_or, Option.mem_toList] at ht
          rw [eget_delD, if_neg (fun k => ht.2 k)]
        · simp only [op1, hr g hgR, hc, if_neg hcw]
        · simp only [rowW, List.mem_append, not_or, Option.mem_toList] at ht
          rw [eget_delD, if_neg (fun k => ht.2 k)]
        · simp only [rowW, List.mem_append, Option.mem_toList] at ht
          rw [eget_delD, eget_delD]
          by_cases hd : d = some t
          · rw [if_pos hd, if_pos hd]
          · rw [if_neg hd, if_neg hd]
            exact hr t (List.mem_append_left _ (iW_sub i t (ht.resolve_right hd)))

theorem viaSub_of_eeq {e f : Env} (h : EEq e f) : viaSub f e := fun t v hv => .inr (by rw [h t]; exact hv)
theorem op1_eeq {T : Orc} {s : Option Nat} {r : Row} {e e' f : Env} {H H' : Heap} (h : op1 T s r e H = some (e', H')) (hn : (keys e).Nodup) (hf : (keys f).Nodup) (k : EEq e f) :
    ∃ f', op1 T s r f H = some (f', H') ∧ EEq e' f' := by
  obtain ⟨a1, a2, a3⟩ := op1_loc h hn
  obtain ⟨f', c1, c2, c3⟩ := a3 f hf (fun t _ => (k t).symm) fun _ => viaSub_of_eeq k
  refine ⟨f', c1, fun t => ?_⟩
  by_cases hw : t ∈ rowW r
  · exact (c3 t hw).symm
  · rw [a2 t hw, c2 t hw]; exact k t
theorem rops_eeq {T : Orc} {s : Option Nat} : ∀ {rs : List Row} {e e' f : Env} {H H' : Heap}, rops T s rs e H = some (e', H') → (keys e).Nodup → (keys f).Nodup → EEq e f → ∃ f', rops T s rs f H = some (f', H') ∧ EEq e' f'
  | [], e, e', f, H, H', h, _, _, k => by
    cases h
    exact ⟨f, rfl, k⟩
  | r :: rs, e, e', f, H, H', h, hn, hf, k => by
    obtain ⟨⟨e1, H1⟩, h1, h2⟩ := Option.bind_eq_some_iff.1 (show (op1 T s r e H).bind (fun q => rops T s rs q.1 q.2) = some (e', H') from h)
    obtain ⟨f1, c1, c2⟩ := op1_eeq h1 hn hf k
    obtain ⟨f', d1, d2⟩ := rops_eeq h2 (op1_loc h1 hn).nodup (op1_loc c1 hf).nodup c2
    exact ⟨f', by show (op1 T s r f H).bind _ = _; rw [c1]; exact d1, d2⟩
theorem rops_nodup {T : Orc} {s : Option Nat} : ∀ {rs : List Row} {e e' : Env} {H H' : Heap}, rops T s rs e H = some (e', H') → (keys e).Nodup → (keys e').Nodup
  | [], e, e', H, H', h, hn => by cases h; exact hn
  | r :: rs, e, e', H, H', h, hn => by
    obtain ⟨⟨e1, H1⟩, h1, h2⟩ := Option.bind_eq_some_iff.1 (show (op1 T s r e H).bind (fun q => rops T s rs q.1 q.2) = some (e', H') from h)
    exact rops_nodup h2 (op1_loc h1 hn).nodup
theorem rops_keep {T : Orc} {s : Option Nat} {t : Nat} : ∀ {rs : List Row} {e e' : Env} {H H' : Heap}, rops T s rs e H = some (e', H') → (keys e).Nodup → (∀ r ∈ rs, t ∉ rowW r) → eget e' t = eget e t
  | [], e, e', H, H', h, hn, _ => by cases h; rfl
  | r :: rs, e, e', H, H', h, hn, hw => by
    obtain ⟨⟨e1, H1⟩, h1, h2⟩ := Option.bind_eq_some_iff.1 (show (op1 T s r e H).bind (fun q => rops T s rs q.1 q.2) = some (e', H') from h)
    have k := op1_loc h1 hn
    rw [rops_keep h2 k.nodup fun r' hr' => hw r' (List.mem_cons_of_mem _ hr')]
    exact k.out t (hw r (List.mem_cons_self ..))
end Go.Abs
