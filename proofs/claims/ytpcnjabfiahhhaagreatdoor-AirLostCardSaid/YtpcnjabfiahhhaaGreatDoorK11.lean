/- A part of the proof of RowAirFits, RowAirHeard, RowAirOrder, RowAirLost: lemmas alone, without conditions. -/
import Derived.Test.YtpcnjabfiahhhaaGreatDoorK10
set_option linter.all false
namespace Go.Abs
structure OrcOK (T : Orc) (pure : FuncId → Bool) : Prop where
 pu : ∀ f, pure f = true → T.pu f = true
 same : ∀ s f args H r H', T.run s f args H = some (r, H') → T.pu f = true → H' = H
 noVia : ∀ s f args H r H', T.run s f args H = some (r, H') → r.noVia = true
 free : ∀ s f args H r H', T.pu f = true → T.run s f args H = some (r, H') → V.rbL 0 args = true → ∀ G, T.run s f args G = some (r, G)
section
variable {T : Orc} {pure : FuncId → Bool} {s : Option Nat} {L free fps : List Nat} {conf : List (Nat × Nat × Nat × Nat)}
theorem fS {r : eJ} {e e' : aQ} {H H' : aB} (h : lA T s r e H = some (e', H')) :
 (H' = H ∧ r.2.1 ≠ none ∧ (∀ G, lA T s r e G = some (e', G)) ∧ e' = aBb e r.1) ∨ ∃ v e1, step T s r.2.2 e H = some (v, e1, H') ∧ e' = pD e1 r.1 v ∧ ∀ G G', step T s r.2.2 e G = some (v, e1, G') → lA T s r e G = some (e', G') := by
 obtain ⟨d, g, i⟩ := r
 cases g with
 | none =>
   obtain ⟨⟨v, e1, H1⟩, h1, h2⟩ := Option.map_eq_some_iff.1 (show (step T s i e H).map (fun r => (pD r.2.1 d r.1, r.2.2)) = some (e', H') from h)
   cases h2
   exact .inr ⟨v, e1, h1, rfl, fun G G' hG => by show (step T s i e G).map _ = _; rw [hG]; rfl⟩
 | some gw =>
   obtain ⟨g, want⟩ := gw
   simp only [lA] at h
   cases hc : eget e g with
   | none => rw [hc] at h; cases h
   | some v =>
     rw [hc] at h
     cases v <;> try cases h
     case tup.refl => exact .inl ⟨rfl, by simp, fun G => by simp only [lA, hc], rfl⟩
     rename_i c
     simp only at h
     by_cases hcw : c = want
     ·rw [if_pos hcw] at h
      obtain ⟨⟨v, e1, H1⟩, h1, h2⟩ := Option.map_eq_some_iff.1 h
      cases h2
      exact .inr ⟨v, e1, h1, rfl, fun G G' hG => by simp only [lA, hc, if_pos hcw, hG, Option.map_some]⟩
     ·rw [if_neg hcw] at h
      cases h
      exact .inl ⟨rfl, by simp, fun G => by simp only [lA, hc, if_neg hcw], rfl⟩
theorem aTa {i : I} {e e' : aQ} {H H' : aB} {v : V} (hc : jJ pure i = .S) (h : step T s i e H = some (v, e', H')) : H' = H ∧ ∀ G, step T s i e G = some (v, e', G) := by
 cases i with
 | mv x =>
   obtain ⟨p, h1, h2⟩ := Option.map_eq_some_iff.1 (show (eI x e).map (fun r => (r.1, r.2, H)) = some (v, e', H') from h)
   cases h2
   exact ⟨rfl, fun G => by simp only [step, h1, Option.map_some]⟩
 | op o xs =>
   simp only [step, Option.bind_eq_some_iff] at h
   obtain ⟨⟨vs, e1⟩, h1, h⟩ := h
   split at h
   ·rename_i hw
    obtain ⟨⟨q, K⟩, h2, h3⟩ := Option.map_eq_some_iff.1 h
    cases h3
    obtain ⟨a1, a2⟩ := aQf hc h2
    refine ⟨a1, fun G => ?_⟩
    simp only [step, h1, Option.bind_some]
    rw [if_pos hw, a2 G]; rfl
   ·cases h
 | pick c x y =>
   simp only [step, Option.bind_eq_some_iff] at h
   obtain ⟨⟨u, e1⟩, h1, h⟩ := h
   cases u <;> try cases h
   rename_i b
   obtain ⟨p, h2, h3⟩ := Option.map_eq_some_iff.1 h
   cases h3
   exact ⟨rfl, fun G => by simp only [step, h1, Option.bind_some, h2, Option.map_some]⟩
 | exm j t =>
   simp only [step] at h
   split at h
   ·rename_i vs hg
    obtain ⟨u, hu, e1⟩ := Option.map_eq_some_iff.1 h
    cases e1
    exact ⟨rfl, fun G => by simp only [step, hg, hu, Option.map_some]⟩
   ·cases h
 | call f xs nw => simp only [jJ] at hc; split at hc <;> cases hc
 | cav x xs => cases hc
 | cam tbl x xs => cases hc
theorem aLr {r : eJ} {e e' : aQ} {H H' : aB} (hc : jJ pure r.2.2 = .S) (h : lA T s r e H = some (e', H')) : H' = H ∧ ∀ G, lA T s r e G = some (e', G) := by
 rcases fS h with ⟨h1, _, h2, _⟩ | ⟨v, e1, h1, h2, h3⟩
 ·exact ⟨h1, h2⟩
 ·obtain ⟨a1, a2⟩ := aTa hc h1
  exact ⟨a1, fun G => h3 G G (a2 G)⟩
theorem G7 {o : O} {xs : List X} {e e' : aQ} {H H' : aB} {v : V} (h : step T s (.op o xs) e H = some (v, e', H')) : ∃ vs, dB xs e = some (vs, e') ∧ apply s o vs H = some (v, H') ∧
 ∀ G G', apply s o vs G = some (v, G') → step T s (.op o xs) e G = some (v, e', G') := by
 simp only [step, Option.bind_eq_some_iff] at h
 obtain ⟨⟨vs, e1⟩, h1, h⟩ := h
 split at h
 ·rename_i hw
  obtain ⟨⟨q, K⟩, h2, h3⟩ := Option.map_eq_some_iff.1 h
  cases h3
  refine ⟨vs, h1, h2, fun G G' hG => ?_⟩
  simp only [step, h1, Option.bind_some]
  rw [if_pos hw, hG]; rfl
 ·cases h
theorem G8 {i : I} {c : Cls} (hc : jJ pure i = c) (h : c = .R ∨ c = .A ∨ c = .W) : ∃ o xs, i = .op o xs := by
 cases i with
 | op o xs => exact ⟨o, xs, rfl⟩
 | call f xs nw => simp only [jJ] at hc; split at hc <;> subst hc <;> simp at h
 | _ => simp only [jJ] at hc; subst hc; simp at h
theorem zH {r : eJ} {e e' : aQ} {H H' : aB} (hc : jJ pure r.2.2 = .R) (h : lA T s r e H = some (e', H')) : H' = H ∧ ∀ X, lA T s r e (H ++ X) = some (e', H ++ X) := by
 rcases fS h with ⟨h1, _, h2, _⟩ | ⟨v, e1, h1, h2, h3⟩
 ·exact ⟨h1, fun X => h2 _⟩
 ·obtain ⟨o, xs, hi⟩ := G8 hc (.inl rfl)
  rw [hi] at h1 hc h3
  obtain ⟨vs, k1, k2, k3⟩ := G7 h1
  exact ⟨aQg hc k2, fun X => h3 _ _ (k3 _ _ (aFw hc k2))⟩
theorem aLs {r : eJ} {e e' : aQ} {H H' : aB} (hc : jJ pure r.2.2 = .A) (h : lA T s r e H = some (e', H')) : ∃ X, H' = H ++ X := by
 rcases fS h with ⟨h1, _⟩ | ⟨v, e1, h1, h2, h3⟩
 ·exact ⟨[], by simp [h1]⟩
 ·obtain ⟨o, xs, hi⟩ := G8 hc (.inr (.inl rfl))
  rw [hi] at h1 hc
  obtain ⟨vs, k1, k2, k3⟩ := G7 h1
  obtain ⟨x, hx⟩ := aQh hc k2
  exact ⟨[x], hx⟩
theorem uE {r : eJ} {t n : Nat} {e e' : aQ} {H H' G : aB} (hc : jJ pure r.2.2 = .R) (hp : place r.2.2 = some (t, n)) (h : lA T s r e H = some (e', H')) (hs : Y5 e t n H G) : lA T s r e G = some (e', G) := by
 rcases fS h with ⟨h1, _, h2, _⟩ | ⟨v, e1, h1, h2, h3⟩
 ·exact h2 G
 ·exact h3 _ _ (aQi hc hp h1 hs)
theorem aRh {r : eJ} {t n u m : Nat} {e f e' : aQ} {H H' : aB} (hc : jJ pure r.2.2 = .W) (hp : place r.2.2 = some (t, n)) (h : lA T s r e H = some (e', H'))
 (hn : ¬ (n = near ∧ m = near)) (ha : fK (eget e t) n (eget f u) m = true ∨ fK (eget f u) m (eget e t) n = true) : Y5 f u m H H' := by
 rcases fS h with ⟨h1, _⟩ | ⟨v, e1, h1, h2, h3⟩
 ·subst h1; exact fun _ _ _ => rfl
 ·exact aQj hc hp h1 hn ha
theorem L0 {i : I} (hc : jJ pure i = .C) : ∃ f xs nw, i = .call f xs nw ∧ pure f = true := by
 cases i with
 | call f xs nw => simp only [jJ] at hc; split at hc; exact ⟨f, xs, nw, rfl, by assumption⟩; cases hc
 | op o xs => rw [vA] at hc; cases o <;> cases hc
 | _ => cases hc
theorem S6 (hT : OrcOK T pure) {r : eJ} {e e' : aQ} {H H' : aB} (hc : jJ pure r.2.2 = .C) (h : lA T s r e H = some (e', H')) : H' = H := by
 rcases fS h with ⟨h1, _⟩ | ⟨v, e1, h1, h2, h3⟩
 ·exact h1
 ·obtain ⟨f, xs, nw, hi, hf⟩ := L0 hc
  rw [hi] at h1
  simp only [step, Option.bind_eq_some_iff] at h1
  obtain ⟨⟨vs, e2⟩, k1, h1⟩ := h1
  split at h1
  ·obtain ⟨⟨q, K⟩, k2, k3⟩ := Option.map_eq_some_iff.1 h1
   cases k3
   exact hT.same _ _ _ _ _ _ (qI k2).1 (hT.pu f hf)
  ·cases h1
theorem P2 : ∀ {H K : aB}, pre H K = true → ∃ X, K = H ++ X
 | [], K, _ => ⟨K, rfl⟩
 | a :: r, b :: s, h => by
   simp only [pre, Bool.and_eq_true] at h
   obtain ⟨X, hX⟩ := P2 h.2
   exact ⟨X, by rw [hX, St.eqL_eq _ _ h.1]; rfl⟩
 | _ :: _, [], h => by cases h
theorem aD5 {r : eJ} {e e' : aQ} {H H' : aB} (hc : aEv r.2.2 = true) (h : lA T s r e H = some (e', H')) : ∃ X, H' = H ++ X := by
 rcases fS h with ⟨h1, _⟩ | ⟨v, e1, h1, h2, h3⟩
 ·exact ⟨[], by rw [h1, List.append_nil]⟩
 ·cases hi : r.2.2 with
  | call f xs nw =>
    rw [hi] at h1 hc
    simp only [step, Option.bind_eq_some_iff] at h1
    obtain ⟨⟨vs, e2⟩, k1, h1⟩ := h1
    split at h1
    ·obtain ⟨⟨q, K⟩, k2, k3⟩ := Option.map_eq_some_iff.1 h1
     cases k3
     rw [show nw = 1 by simpa [aEv] using hc] at k2
     exact P2 (qI k2).2
    ·cases h1
  | _ => rw [hi] at hc; cases hc
theorem aEy : ∀ {n : Nat} {H K : aB}, aDw n H K = true → H.length ≤ K.length ∧ ∀ i, i < H.length → i ≠ n → K[i]? = H[i]?
 | _, [], K, _ => ⟨Nat.zero_le _, fun i hi => by simp at hi⟩
 | 0, a :: r, b :: s, h => by
   obtain ⟨X, hX⟩ := P2 (show pre r s = true from h)
   refine ⟨by rw [hX]; simp, fun i hi hn => ?_⟩
   cases i with
   | zero => exact absurd rfl hn
   | succ i => rw [List.getElem?_cons_succ, List.getElem?_cons_succ, hX, List.getElem?_append_left (by simpa using hi)]
 | n + 1, a :: r, b :: s, h => by
   simp only [aDw, Bool.and_eq_true] at h
   obtain ⟨h1, h2⟩ := aEy h.2
   refine ⟨by simpa using h1, fun i hi hn => ?_⟩
   cases i with
   | zero => rw [List.getElem?_cons_zero, List.getElem?_cons_zero, St.eqL_eq _ _ h.1]
   | succ i => rw [List.getElem?_cons_succ, List.getElem?_cons_succ]; exact h2 i (by simpa using hi) (by omega)
 | 0, _ :: _, [], h => by cases h
 | _ + 1, _ :: _, [], h => by cases h
theorem aI3 {H K : aB} (h : pre H K = true) : H.length ≤ K.length ∧ ∀ i, i < H.length → K[i]? = H[i]? := by
 obtain ⟨X, rfl⟩ := P2 h
 exact ⟨by simp, fun i hi => List.getElem?_append_left hi⟩
theorem S7 {r : eJ} {u : Nat} {e e' : aQ} {H H' : aB} (hc : s6 r.2.2 = some u) (h : lA T s r e H = some (e', H')) : H.length ≤ H'.length ∧ ∀ i, i < H.length → (∀ j o, eget e u = some (.ptr j o) → i ≠ j) → H'[i]? = H[i]? := by
 rcases fS h with ⟨h1, _⟩ | ⟨v, e1, h1, h2, h3⟩
 ·rw [h1]; exact ⟨Nat.le_refl _, fun _ _ _ => rfl⟩
 ·cases hi : r.2.2 with
  | call f xs nw =>
    rw [hi] at h1 hc
    unfold s6 at hc
    split at hc
    ·rename_i f' u' xs' hh
     cases hc
     injection hh with _ hxs hnw
     subst hnw hxs
     simp only [step, Option.bind_eq_some_iff] at h1
     obtain ⟨⟨vs, e2⟩, k1, h1⟩ := h1
     split at h1
     ·obtain ⟨⟨q, K⟩, k2, k3⟩ := Option.map_eq_some_iff.1 h1
      cases k3
      have hk := (qI k2).2
      simp only [dB, eI, Option.bind_eq_some_iff, Option.map_eq_some_iff] at k1
      obtain ⟨⟨w, e3⟩, ⟨v0, hv0, hw⟩, ⟨ws, e4⟩, _, hvs⟩ := k1
      cases hw
      cases hvs
      simp only at hk
      have hk : okN 2 (v0.dis :: ws) H K = true := hk
      by_cases hp : ∃ j o, v0 = .ptr j o
      ·obtain ⟨j, o, rfl⟩ := hp
       have hk : aDw j H K = true := hk
       obtain ⟨a1, a2⟩ := aEy hk
       exact ⟨a1, fun i hi hn => a2 i hi (hn j o hv0)⟩
      ·have hk : pre H K = true := by
        cases hv : v0.dis with
        | ptr j o => exact absurd ⟨j, o, xL hv⟩ hp
        | _ => rw [hv] at hk; exact hk
       obtain ⟨a1, a2⟩ := aI3 hk
       exact ⟨a1, fun i hi _ => a2 i hi⟩
     ·cases h1
    ·cases hc
  | _ => rw [hi] at hc; cases hc
theorem aBw : ∀ {n : Nat} {H K : aB}, sR n H K = true → H.length ≤ K.length ∧ (n < H.length → K[n]? = H[n]?)
 | _, [], _, _ => ⟨Nat.zero_le _, fun h => by cases h⟩
 | 0, a :: r, b :: s, h => by
   simp only [sR, Bool.and_eq_true, decide_eq_true_eq] at h
   exact ⟨by simpa using h.2, fun _ => by simp [St.eqL_eq _ _ h.1]⟩
 | n + 1, a :: r, b :: s, h => by
   obtain ⟨h1, h2⟩ := aBw (n := n) (H := r) (K := s) h
   exact ⟨by simpa using h1, fun k => by simpa using h2 (by simpa using k)⟩
 | 0, _ :: _, [], h => by cases h
 | _ + 1, _ :: _, [], h => by cases h
theorem S8 {r : eJ} {u : Nat} {e e' : aQ} {H H' : aB} (hc : s7 r.2.2 = some u) (h : lA T s r e H = some (e', H')) : H.length ≤ H'.length ∧ ∀ i, i < H.length → ((∃ o, eget e u = some (.ptr i o)) ∨ ∃ c k, eget e u = some (.fp c k)) → H'[i]? = H[i]? := by
 rcases fS h with ⟨h1, _⟩ | ⟨v, e1, h1, h2, h3⟩
 ·rw [h1]; exact ⟨Nat.le_refl _, fun _ _ _ => rfl⟩
 ·cases hi : r.2.2 with
  | call f xs nw =>
    rw [hi] at h1 hc
    unfold s7 at hc
    split at hc
    ·rename_i f' u' xs' hh
     cases hc
     injection hh with _ hxs hnw
     subst hnw hxs
     simp only [step, Option.bind_eq_some_iff] at h1
     obtain ⟨⟨vs, e2⟩, k1, h1⟩ := h1
     split at h1
     ·obtain ⟨⟨q, K⟩, k2, k3⟩ := Option.map_eq_some_iff.1 h1
      cases k3
      have hk := (qI k2).2
      simp only [dB, eI, Option.bind_eq_some_iff, Option.map_eq_some_iff] at k1
      obtain ⟨⟨w, e3⟩, ⟨v0, hv0, hw⟩, ⟨ws, e4⟩, _, hvs⟩ := k1
      cases hw
      cases hvs
      simp only at hk
      have hk : okN 3 (v0.dis :: ws) H K = true := hk
      by_cases hp : ∃ j o, v0 = .ptr j o
      ·obtain ⟨j, o, rfl⟩ := hp
       have hk : sR j H K = true := hk
       obtain ⟨a1, a2⟩ := aBw hk
       refine ⟨a1, fun i hi hn => ?_⟩
       rw [hv0] at hn
       rcases hn with ⟨_, hn⟩ | ⟨_, _, hn⟩ <;> cases hn
       exact a2 hi
      ·have hk : pre H K = true := by
        cases hv : v0.dis with
        | ptr j o => exact absurd ⟨j, o, xL hv⟩ hp
        | _ => rw [hv] at hk; exact hk
       obtain ⟨a1, a2⟩ := aI3 hk
       exact ⟨a1, fun i hi _ => a2 i hi⟩
     ·cases h1
    ·cases hc
  | _ => rw [hi] at hc; cases hc
theorem S9 {i : I} {u : Nat} (h : s7 i = some u) : u ∈ iR i := by
 unfold s7 at h
 split at h
 ·cases h; simp [iR, xr]
 ·cases h
theorem V.rbL_map {n : Nat} {f : V → V} (hf : ∀ v : V, v.rb n = true → (f v).rb n = true) {vs : List V} (h : V.rbL n vs = true) : V.rbL n (vs.map f) = true := by
 rw [V.rbL_iff] at h ⊢
 intro v hv
 obtain ⟨u, hu, rfl⟩ := List.mem_map.1 hv
 exact hf u (h u hu)
theorem V.rb_dis2 {n : Nat} (v : V) (h : v.rb n = true) : v.dis2.rb n = true := by
 cases v <;> try exact h
 all_goals simp only [V.rb, V.dis2, Bool.and_eq_true] at h ⊢
 ·exact h.2
 ·exact V.rbL_map V.rb_dis1 h
theorem V.rb_dis {n : Nat} (v : V) (h : v.rb n = true) : v.dis.rb n = true := by
 cases v <;> try exact h
 all_goals simp only [V.rb, V.dis, Bool.and_eq_true] at h ⊢
 ·exact h.2
 ·exact V.rbL_map V.rb_dis1 h
 ·exact V.rbL_map V.rb_dis2 h
theorem aEz {e' : aQ} : ∀ {xs : List X} {vs : List V} {e : aQ}, dB xs e = some (vs, e') → (∀ t ∈ xs.flatMap xr, ∀ v, eget e t = some v → v.rb 0 = true) → xs.all xk = true → V.rbL 0 vs = true
 | [], vs, e, h, _, _ => by
   obtain ⟨rfl, rfl⟩ : [] = vs ∧ e = e' := by simpa [dB] using h
   simp [V.rbL]
 | x :: xs, vs, e, h, hr, hk => by
   simp only [dB, Option.bind_eq_some_iff, Option.map_eq_some_iff] at h
   obtain ⟨⟨u, e1⟩, h1, ⟨us, e2⟩, h2, h3⟩ := h
   cases h3
   simp only [List.all_cons, Bool.and_eq_true] at hk
   simp only [V.rbL, Bool.and_eq_true]
   have a1 := (C3 x e u e1 h1).1
   refine ⟨?_, aEz h2 (fun t ht v hv => ?_) hk.2⟩
   ·cases x with
    | t n =>
      obtain ⟨w, hw, e1⟩ := Option.map_eq_some_iff.1 (show (eget e n).map (fun x => (x.dis, e)) = some (u, e1) from h1)
      cases e1
      have := hr n (by simp [xr]) w hw
      exact V.rb_dis w this
    | m n =>
      obtain ⟨w, hw, e1⟩ := Option.map_eq_some_iff.1 (show (eget e n).map (fun x => (x, aX e n)) = some (u, e1) from h1)
      cases e1
      exact hr n (by simp [xr]) _ hw
    | k w =>
      obtain ⟨rfl, rfl⟩ : w = u ∧ e = e1 := by simpa [eI] using h1
      have := hk.1
      simp only [xk, Bool.and_eq_true] at this
      exact this.2
   ·by_cases hw : t ∈ xw x
    ·cases x with
     | m n =>
       obtain ⟨w, hw2, e1⟩ := Option.map_eq_some_iff.1 (show (eget e n).map (fun x => (x, aX e n)) = some (u, e1) from h1)
       cases e1
       have : t = n := by simpa [xw] using hw
       subst this
       rw [hJ, if_pos rfl] at hv
       cases hv
     | _ => simp [xw] at hw
    ·rw [a1 t hw] at hv
     exact hr t (by simp only [List.flatMap_cons, List.mem_append]; exact .inr ht) v hv
theorem aBx (hT : OrcOK T pure) {r : eJ} {e e' : aQ} {H H' : aB} (hc : jJ pure r.2.2 = .C) (hk : iK r.2.2 = true) (h : lA T s r e H = some (e', H')) (hf : ∀ t ∈ zD r.2.2, ∀ v, eget e t = some v → v.rb 0 = true) :
 ∀ G, lA T s r e G = some (e', G) := by
 rcases fS h with ⟨h1, _, h2, _⟩ | ⟨v, e1, h1, h2, h3⟩
 ·exact h2
 ·intro G
  refine h3 G G ?_
  obtain ⟨f, xs, nw, hi, hp⟩ := L0 hc
  rw [hi] at h1 hf hk ⊢
  simp only [step, Option.bind_eq_some_iff] at h1 ⊢
  obtain ⟨⟨vs, e2⟩, k1, h1⟩ := h1
  refine ⟨⟨vs, e2⟩, k1, ?_⟩
  split at h1
  ·rename_i hw
   obtain ⟨⟨q, K⟩, k2, k3⟩ := Option.map_eq_some_iff.1 h1
   cases k3
   rw [if_pos hw, P5 (hT.free _ _ _ _ _ _ (hT.pu f hp) (qI k2).1 (aEz (e := e) k1 hf hk) G) (aG8 _ _ G)]; rfl
  ·cases h1
theorem fD {i : I} {t n : Nat} (h : place i = some (t, n)) : t ∈ iR i := by
 unfold place at h
 split at h <;> cases h <;> simp [iR, xr]
theorem B0 {i : I} {t : Nat} (h : t ∈ zD i) : t ∈ iR i := by
 unfold zD at h
 split at h
 ·exact h
 ·cases h
theorem bV {r : eJ} {t : Nat} (h : t ∈ iR r.2.2) : t ∈ oJ r := List.mem_append_left _ h
theorem B1 {a b : List Nat} : K9 a b = true ↔ ∀ t ∈ a, t ∉ b := by
 simp [K9]
def LInv (L : List Nat) (e : aQ) : Prop := ∀ t v, t ∉ L → eget e t = some v → v.noVia = true
structure Facts (conf : List (Nat × Nat × Nat × Nat)) (free fps : List Nat) (a b : eJ) (e : aQ) (H : aB) : Prop where
 fconf : ∀ t n u m, (t, n, u, m) ∈ conf → t ∈ oJ a → u ∈ oJ b → fK (eget e t) n (eget e u) m = true
 ffree : ∀ t ∈ free, (t ∈ oJ a ∨ t ∈ oJ b) → ∀ v, eget e t = some v → v.rb 0 = true
 ffps : ∀ t ∈ fps, (t ∈ oJ a ∨ t ∈ oJ b) → ∀ id o, eget e t ≠ some (.ptr id o)
 frb : ∀ t n, place b.2.2 = some (t, n) → t ∈ fps ∨ ∀ v, eget e t = some v → v.rb H.length = true
theorem l9 {e : aQ} {t n : Nat} {H G : aB} (h : ∀ id o, eget e t ≠ some (.ptr id o)) : Y5 e t n H G := fun id o k => absurd k (h id o)
theorem T0 {i : I} (h : aP7 fps i = true) : ∃ t n, place i = some (t, n) ∧ t ∈ fps := by
 unfold aP7 at h
 split at h
 ·rename_i t n hp; exact ⟨t, n, hp, by simpa using h⟩
 ·cases h
theorem T1 {i : I} {u : Nat} (h : s6 i = some u) : u ∈ iR i := by
 unfold s6 at h
 split at h
 ·cases h; simp [iR, xr]
 ·cases h
theorem aJl {i o n j p : Nat} (h : fK (some (.ptr i o)) n (some (.ptr j p)) far = true) : i ≠ j := by
 simpa [fK, far, near] using h
theorem aGt {i o n j p : Nat} (h : fK (some (.ptr j p)) far (some (.ptr i o)) n = true) : i ≠ j := fun e => by
 have : j ≠ i := by simpa [fK, far, near] using h
 exact this e.symm
theorem aGu {i o : Nat} {y : Option V} (h : fK (some (.ptr i o)) near y near = true) : (∃ p, y = some (.ptr i p)) ∨ ∃ c k, y = some (.fp c k) := by
 cases y with
 | none => cases h
 | some v => cases v <;> first | (simp [fK] at h; done) | (simp [fK] at h; subst h; exact .inl ⟨_, rfl⟩) | exact .inr ⟨_, _, rfl⟩
theorem aF0 {i o : Nat} {y : Option V} (h : fK y near (some (.ptr i o)) near = true) : (∃ p, y = some (.ptr i p)) ∨ ∃ c k, y = some (.fp c k) := by
 cases y with
 | none => cases h
 | some v => cases v <;> first | (simp [fK] at h; done) | (simp [fK] at h; subst h; exact .inl ⟨_, rfl⟩) | exact .inr ⟨_, _, rfl⟩
theorem aJm (hT : OrcOK T pure) {a b : eJ} {e e1 e2 : aQ} {H H1 H2 : aB} (h1 : lA T s a e H = some (e1, H1)) (h2 : lA T s b e1 H1 = some (e2, H2)) (hp : zE pure conf free fps a b = true)
 (ka : iK a.2.2 = true) (kb : iK b.2.2 = true) (hd : ∀ t ∈ oJ b, eget e1 t = eget e t) (F : Facts conf free fps a b e H) :
 ∃ G1, lA T s b e1 H = some (e2, G1) ∧ lA T s a e G1 = some (e1, H2) := by
 have fpB : ∀ t ∈ fps, t ∈ oJ b → ∀ id o, eget e1 t ≠ some (.ptr id o) := fun t ht hb id o k => F.ffps t ht (.inr hb) id o (by rw [← hd t hb]; exact k)
 have cS1 : jJ pure a.2.2 = .S → ∃ G1, lA T s b e1 H = some (e2, G1) ∧ lA T s a e G1 = some (e1, H2) := fun hc => by
  obtain ⟨k1, k2⟩ := aLr hc h1
  subst k1
  exact ⟨H2, h2, k2 H2⟩
 have cS2 : jJ pure b.2.2 = .S → ∃ G1, lA T s b e1 H = some (e2, G1) ∧ lA T s a e G1 = some (e1, H2) := fun hc => by
  obtain ⟨k1, k2⟩ := aLr hc h2
  subst k1
  exact ⟨H, k2 H, h1⟩
 unfold zE at hp
 split at hp
 ·exact cS1 (by assumption)
 ·exact cS2 (by assumption)
 ·
  have ca : jJ pure a.2.2 = .R := by assumption
  have cb : jJ pure b.2.2 = .U := by assumption
  simp only [Bool.and_eq_true, Bool.or_eq_true] at hp
  obtain ⟨k3, kX⟩ := zH ca h1
  subst k3
  rcases hp.1 with ((q | q) | q) | q
  rotate_left
  ·obtain ⟨X, hX⟩ := aD5 q h2
   exact ⟨H2, h2, by rw [hX]; exact kX X⟩
  rotate_left
  ·split at q
   ·rename_i t n u p1 p2
    simp only [Bool.and_eq_true, List.contains_iff_mem] at q
    have hub : u ∈ oJ b := bV (S9 p2)
    obtain ⟨a1, a2⟩ := S8 p2 h2
    refine ⟨H2, h2, uE ca p1 (kX (H2.drop H1.length)) fun id o hv => ?_⟩
    unfold bX
    congr 1
    by_cases hi : id < H1.length
    ·rw [List.getElem?_append_left hi]
     have := F.fconf _ _ _ _ q.2 (bV (fD p1)) hub
     rw [hv, ← hd u hub] at this
     rcases aGu this with ⟨p, hp⟩ | ⟨c, k, hp⟩
     ·exact a2 id hi (.inl ⟨p, hp⟩)
     ·exact a2 id hi (.inr ⟨c, k, hp⟩)
    ·rw [List.getElem?_append_right (by omega), List.getElem?_drop]; congr 1; omega
   ·cases q
  rotate_left
  ·split at q
   ·rename_i t n u p1 p2
    simp only [Bool.and_eq_true, List.contains_iff_mem] at q
    have hub : u ∈ oJ b := bV (T1 p2)
    obtain ⟨a1, a2⟩ := S7 p2 h2
    refine ⟨H2, h2, uE ca p1 (kX (H2.drop H1.length)) fun id o hv => ?_⟩
    unfold bX
    congr 1
    by_cases hi : id < H1.length
    ·rw [List.getElem?_append_left hi]
     refine a2 id hi fun j o' hj => ?_
     have := F.fconf _ _ _ _ q.2 (bV (fD p1)) hub
     rw [hv, ← hd u hub, hj] at this
     exact aJl this
    ·rw [List.getElem?_append_right (by omega), List.getElem?_drop]; congr 1; omega
   ·cases q
  obtain ⟨t, n, k1, k2⟩ := T0 q
  exact ⟨H2, h2, uE ca k1 h1 (l9 fun id o => F.ffps t k2 (.inl (bV (fD k1))) id o)⟩
 ·
  have ca : jJ pure a.2.2 = .U := by assumption
  have cb : jJ pure b.2.2 = .R := by assumption
  simp only [Bool.and_eq_true, Bool.or_eq_true] at hp
  obtain ⟨k3, _⟩ := zH cb h2
  subst k3
  rcases hp.1 with ((q | ⟨q, q'⟩) | q) | q
  rotate_left
  rotate_left
  rotate_left
  ·split at q
   ·rename_i t n u p1 p2
    simp only [Bool.and_eq_true, List.contains_iff_mem] at q
    have hua : u ∈ oJ a := bV (S9 p2)
    have hm := bV (r := b) (fD p1)
    obtain ⟨a1, a2⟩ := S8 p2 h1
    refine ⟨H, uE cb p1 h2 fun id o hv => ?_, h1⟩
    rw [hd t hm] at hv
    have hi : id < H.length := by
     rcases F.frb t n p1 with k | k
     ·exact absurd hv (F.ffps t k (.inr hm) id o)
     ·simpa only [V.rb, decide_eq_true_eq] using k _ hv
    unfold bX
    congr 1
    have := F.fconf _ _ _ _ q.2 hua hm
    rw [hv] at this
    rcases aF0 this with ⟨p, hp⟩ | ⟨c, k, hp⟩
    ·exact (a2 id hi (.inl ⟨p, hp⟩)).symm
    ·exact (a2 id hi (.inr ⟨c, k, hp⟩)).symm
   ·cases q
  rotate_left
  rotate_left
  ·split at q
   ·rename_i t n u p1 p2
    simp only [Bool.and_eq_true, List.contains_iff_mem] at q
    have hua : u ∈ oJ a := bV (T1 p2)
    have hm := bV (r := b) (fD p1)
    obtain ⟨a1, a2⟩ := S7 p2 h1
    refine ⟨H, uE cb p1 h2 fun id o hv => ?_, h1⟩
    rw [hd t hm] at hv
    have hi : id < H.length := by
     rcases F.frb t n p1 with k | k
     ·exact absurd hv (F.ffps t k (.inr hm) id o)
     ·simpa only [V.rb, decide_eq_true_eq] using k _ hv
    unfold bX
    congr 1
    refine (a2 id hi fun j o' hj => ?_).symm
    have := F.fconf _ _ _ _ q.2 hua hm
    rw [hv, hj] at this
    exact aGt this
   ·cases q
  rotate_left
  ·obtain ⟨⟨t, n⟩, k1⟩ := Option.isSome_iff_exists.1 q'
   obtain ⟨X, hX⟩ := aD5 q h1
   refine ⟨H, uE cb k1 h2 ?_, h1⟩
   have hm := bV (fD k1)
   rcases F.frb t n k1 with k | k
   ·exact l9 (fpB t k hm)
   ·intro id o hv
    rw [hd t hm] at hv
    have := k _ hv
    simp only [V.rb, decide_eq_true_eq] at this
    rw [hX]
    unfold bX
    rw [List.getElem?_append_left this]
  obtain ⟨t, n, k1, k2⟩ := T0 q
  exact ⟨H, uE cb k1 h2 (l9 (fpB t k2 (bV (fD k1)))), h1⟩
 ·
  have ca : jJ pure a.2.2 = .A := by assumption
  have cb : jJ pure b.2.2 = .R := by assumption
  obtain ⟨⟨t, n⟩, k1⟩ := Option.isSome_iff_exists.1 hp
  obtain ⟨k3, _⟩ := zH cb h2
  subst k3
  obtain ⟨X, hX⟩ := aLs ca h1
  refine ⟨H, uE cb k1 h2 ?_, h1⟩
  have hm := bV (fD k1)
  rcases F.frb t n k1 with k | k
  ·exact l9 (fpB t k hm)
  ·intro id o hv
   rw [hd t hm] at hv
   have := k _ hv
   simp only [V.rb, decide_eq_true_eq] at this
   rw [hX]
   unfold bX
   rw [List.getElem?_append_left this]
 ·
  have ca : jJ pure a.2.2 = .R := by assumption
  have cb : jJ pure b.2.2 = .R := by assumption
  have k1 := (zH ca h1).1; subst k1
  have k2 := (zH cb h2).1; subst k2
  exact ⟨_, h2, h1⟩
 ·
  have ca : jJ pure a.2.2 = .R := by assumption
  have cb : jJ pure b.2.2 = .A := by assumption
  obtain ⟨k1, k2⟩ := zH ca h1
  subst k1
  obtain ⟨X, hX⟩ := aLs cb h2
  exact ⟨H2, h2, by rw [hX]; exact k2 X⟩
 ·
  have ca : jJ pure a.2.2 = .R := by assumption
  have cb : jJ pure b.2.2 = .C := by assumption
  have k1 := (zH ca h1).1; subst k1
  have k2 := S6 hT cb h2; subst k2
  exact ⟨_, h2, h1⟩
 ·
  have ca : jJ pure a.2.2 = .C := by assumption
  have cb : jJ pure b.2.2 = .R := by assumption
  have k1 := S6 hT ca h1; subst k1
  have k2 := (zH cb h2).1; subst k2
  exact ⟨_, h2, h1⟩
 ·
  have ca : jJ pure a.2.2 = .C := by assumption
  have cb : jJ pure b.2.2 = .C := by assumption
  have k1 := S6 hT ca h1; subst k1
  have k2 := S6 hT cb h2; subst k2
  exact ⟨_, h2, h1⟩
 ·
  have ca : jJ pure a.2.2 = .C := by assumption
  have cb : jJ pure b.2.2 = .A := by assumption
  simp only [Bool.and_eq_true, List.all_eq_true, List.contains_iff_mem] at hp
  have k1 := S6 hT ca h1; subst k1
  exact ⟨H2, h2, aBx hT ca ka h1 (fun t ht v hv => F.ffree t (hp.2 t ht) (.inl (bV (B0 ht))) v hv) H2⟩
 ·
  have ca : jJ pure a.2.2 = .A := by assumption
  have cb : jJ pure b.2.2 = .C := by assumption
  simp only [Bool.and_eq_true, List.all_eq_true, List.contains_iff_mem] at hp
  have k1 := S6 hT cb h2; subst k1
  refine ⟨H, aBx hT cb kb h2 (fun t ht v hv => ?_) H, h1⟩
  have hm := bV (B0 ht)
  rw [hd t hm] at hv
  exact F.ffree t (hp.2 t ht) (.inr hm) v hv
 ·
  have ca : jJ pure a.2.2 = .R := by assumption
  have cb : jJ pure b.2.2 = .W := by assumption
  simp only [Bool.and_eq_true] at hp
  obtain ⟨_, hp⟩ := hp
  split at hp
  ·rename_i t n u m p1 p2
   simp only [List.contains_iff_mem, Bool.and_eq_true, bne_iff_ne] at hp
   have hb := bV (r := b) (fD p2)
   obtain ⟨k1, _⟩ := zH ca h1; subst k1
   refine ⟨H2, h2, uE ca p1 h1 (aRh cb p2 h2 (fun k => hp.1 k.2) (.inr ?_))⟩
   rw [hd u hb]
   exact F.fconf _ _ _ _ hp.2 (bV (fD p1)) hb
  ·cases hp
 ·
  have ca : jJ pure a.2.2 = .W := by assumption
  have cb : jJ pure b.2.2 = .R := by assumption
  simp only [Bool.and_eq_true] at hp
  obtain ⟨_, hp⟩ := hp
  split at hp
  ·rename_i t n u m p1 p2
   simp only [List.contains_iff_mem, Bool.and_eq_true, bne_iff_ne] at hp
   have hb := bV (r := b) (fD p2)
   obtain ⟨k1, _⟩ := zH cb h2; subst k1
   refine ⟨H, uE cb p2 h2 ?_, h1⟩
   have := aRh (f := e1) ca p1 h1 (fun k => hp.1 k.1) (.inl (by rw [hd u hb]; exact F.fconf _ _ _ _ hp.2 (bV (fD p1)) hb))
   exact fun id o k => (this id o k).symm
  ·cases hp
 ·cases hp
end
end Go.Abs
namespace Go.Abs
section
variable {T : Orc} {pure : FuncId → Bool} {s : Option Nat} {L free fps : List Nat} {conf : List (Nat × Nat × Nat × Nat)}
theorem tQ {x : X} {e e' : aQ} {v : V} (h : eI x e = some (v, e')) : ∀ t u, eget e' t = some u → eget e t = some u := by
 cases x with
 | t n => obtain ⟨w, _, e1⟩ := Option.map_eq_some_iff.1 (show (eget e n).map (fun x => (x.dis, e)) = some (v, e') from h); cases e1; exact fun _ _ k => k
 | m n =>
   obtain ⟨w, _, e1⟩ := Option.map_eq_some_iff.1 (show (eget e n).map (fun x => (x, aX e n)) = some (v, e') from h); cases e1
   intro t u k
   rw [hJ] at k
   split at k
   ·cases k
   ·exact k
 | k w => obtain ⟨rfl, rfl⟩ : w = v ∧ e = e' := by simpa [eI] using h
          exact fun _ _ k => k
theorem B6 : ∀ {xs : List X} {e e' : aQ} {vs : List V}, dB xs e = some (vs, e') → ∀ t u, eget e' t = some u → eget e t = some u
 | [], e, e', vs, h => by
   obtain ⟨rfl, rfl⟩ : [] = vs ∧ e = e' := by simpa [dB] using h
   exact fun _ _ k => k
 | x :: xs, e, e', vs, h => by
   simp only [dB, Option.bind_eq_some_iff, Option.map_eq_some_iff] at h
   obtain ⟨⟨u, e1⟩, h1, ⟨us, e2⟩, h2, h3⟩ := h
   cases h3
   exact fun t v k => tQ h1 t v (B6 h2 t v k)
theorem LInv.sub {e e' : aQ} (h : LInv L e) (k : ∀ t u, eget e' t = some u → eget e t = some u) : LInv L e' := fun t v ht hv => h t v ht (k t v hv)
theorem LInv.put {e : aQ} (h : LInv L e) {d : Option Nat} {v : V} (hv : v.noVia = true ∨ ∀ t, d = some t → t ∈ L) : LInv L (pD e d v) := by
 intro t u ht hu
 rw [rX] at hu
 split at hu
 ·rename_i hd
  cases hu
  exact hv.resolve_right fun k => ht (k t hd)
 ·exact h t u ht hu
theorem aK2 {i : I} {e e' : aQ} {H H' : aB} {v : V} (hL : LInv L e) (h : step T s i e H = some (v, e', H')) : LInv L e' := by
 cases i with
 | mv x =>
   obtain ⟨p, h1, h2⟩ := Option.map_eq_some_iff.1 (show (eI x e).map (fun r => (r.1, r.2, H)) = some (v, e', H') from h)
   cases h2
   exact hL.sub (tQ h1)
 | op o xs => obtain ⟨vs, h1, _⟩ := G7 h; exact hL.sub (B6 h1)
 | pick c x y =>
   simp only [step, Option.bind_eq_some_iff] at h
   obtain ⟨⟨u, e1⟩, h1, h⟩ := h
   cases u <;> try cases h
   obtain ⟨p, h2, h3⟩ := Option.map_eq_some_iff.1 h
   cases h3
   exact (hL.sub (tQ h1)).sub (tQ h2)
 | exm j t =>
   simp only [step] at h
   split at h
   ·rename_i vs hg
    obtain ⟨u, hu, e1⟩ := Option.map_eq_some_iff.1 h
    cases e1
    exact hL.put (d := some t) (.inl rfl)
   ·cases h
 | call f xs nw =>
   simp only [step, Option.bind_eq_some_iff] at h
   obtain ⟨⟨vs, e1⟩, h1, h⟩ := h
   split at h
   ·obtain ⟨q, _, h3⟩ := Option.map_eq_some_iff.1 h
    cases h3
    exact hL.sub (B6 h1)
   ·cases h
 | cav x xs =>
   simp only [step, Option.bind_eq_some_iff] at h
   obtain ⟨⟨u, e0⟩, h0, h⟩ := h
   cases u <;> try cases h
   simp only [Option.bind_eq_some_iff] at h
   obtain ⟨⟨vs, e1⟩, h1, h⟩ := h
   split at h
   ·obtain ⟨q, _, h3⟩ := Option.map_eq_some_iff.1 h
    cases h3
    exact (hL.sub (tQ h0)).sub (B6 h1)
   ·cases h
 | cam tbl x xs =>
   simp only [step, Option.bind_eq_some_iff] at h
   obtain ⟨⟨u, e0⟩, h0, h⟩ := h
   cases u <;> try cases h
   simp only at h
   split at h
   ·simp only [Option.bind_eq_some_iff] at h
    obtain ⟨⟨vs, e1⟩, h1, h⟩ := h
    split at h
    ·obtain ⟨q, _, h3⟩ := Option.map_eq_some_iff.1 h
     cases h3
     exact (hL.sub (tQ h0)).sub (B6 h1)
    ·cases h
   ·cases h
theorem I0 {x : X} {e e' : aQ} {v : V} (hL : LInv L e) (hd : ∀ t ∈ xr x, t ∉ L) (hk : xk x = true) (h : eI x e = some (v, e')) : v.noVia = true := by
 cases x with
 | t n => obtain ⟨w, _, e1⟩ := Option.map_eq_some_iff.1 (show (eget e n).map (fun x => (x.dis, e)) = some (v, e') from h); cases e1; exact V.dis_noVia w
 | m n =>
   obtain ⟨w, hw, e1⟩ := Option.map_eq_some_iff.1 (show (eget e n).map (fun x => (x, aX e n)) = some (v, e') from h); cases e1
   exact hL n _ (hd n (by simp [xr])) hw
 | k w =>
   obtain ⟨rfl, rfl⟩ : w = v ∧ e = e' := by simpa [eI] using h
   simp only [xk, Bool.and_eq_true] at hk
   exact hk.1
theorem aC4 : ∀ {xs : List X} {e e' : aQ} {vs : List V}, LInv L e → (∀ t ∈ xs.flatMap xr, t ∉ L) → xs.all xk = true → dB xs e = some (vs, e') → ∀ v ∈ vs, v.noVia = true
 | [], e, e', vs, _, _, _, h => by
   obtain ⟨rfl, rfl⟩ : [] = vs ∧ e = e' := by simpa [dB] using h
   simp
 | x :: xs, e, e', vs, hL, hd, hk, h => by
   simp only [dB, Option.bind_eq_some_iff, Option.map_eq_some_iff] at h
   obtain ⟨⟨u, e1⟩, h1, ⟨us, e2⟩, h2, h3⟩ := h
   cases h3
   simp only [List.all_cons, Bool.and_eq_true] at hk
   simp only [List.flatMap_cons, List.mem_append] at hd
   intro v hv
   rcases List.mem_cons.1 hv with rfl | hv
   ·exact I0 hL (fun t ht => hd t (.inl ht)) hk.1 h1
   ·exact aC4 (hL.sub (tQ h1)) (fun t ht => hd t (.inr ht)) hk.2 h2 v hv
theorem wU {x : Option V} {r : V} (h : x.bind V.ntup = some r) : r.noVia = true := by
 obtain ⟨u, hu, h⟩ := Option.bind_eq_some_iff.1 h
 cases u <;> first | (cases h; rfl) | cases h
theorem U2 {op : BinOp} {k : IntKind} {a b : Int} {r : V} (h : bits op k a b = some r) : r.noVia = true := by
 unfold bits at h
 cases op <;> simp only at h <;> cases h <;> rfl
theorem I1 {op : BinOp} {k : IntKind} {a b : Int} {r : V} (h : iop op k a b = some r) : r.noVia = true := by
 unfold iop at h
 cases op <;> simp only at h <;> first | exact U2 h | (cases h; rfl) | (split at h <;> cases h; rfl)
theorem aK3 {op : BinOp} {x y r : V} (h : bin op x y = some r) : r.noVia = true := by
 unfold bin at h
 split at h
 ·cases op <;> simp only at h <;> first | exact I1 h | (split at h; exact I1 h; cases h)
 ·cases op <;> simp only at h <;> first | (cases h; done) | (cases h; rfl) | (split at h <;> cases h; rfl)
 ·cases h
theorem aMe {op : UnOp} {x r : V} (h : un op x = some r) : r.noVia = true := by
 unfold un at h
 split at h <;> first | (cases h; rfl) | exact I1 h | exact U2 h | cases h
theorem I2 {le : Int → Int → Bool} : ∀ {vs : List V} {v r : V}, v.noVia = true → mxn le v vs = some r → r.noVia = true
 | [], v, r, hv, h => by simp only [mxn] at h; cases h; exact hv
 | u :: vs, v, r, hv, h => by
   cases v <;> cases u <;> simp only [mxn] at h <;> first | (cases h; done) | exact I2 (v := .int _ _) rfl h
theorem sF {sz bytes : Nat} {s x r : V} {H : aB} (h : eQ sz bytes s x H = some r) : r.noVia = true := by
 unfold eQ at h
 split at h
 ·split at h
  ·obtain ⟨q, _, h2⟩ := Option.bind_eq_some_iff.1 h
   split at h2
   ·cases h2; rfl
   ·cases h2
  ·cases h
 ·cases h
theorem L2 {o : O} {vs : List V} {H H' : aB} {r : V} (hv : (o = .mx ∨ o = .mn) → ∀ v ∈ vs, v.noVia = true) (hl : o ≠ .lv) (hk : (match o with | .kst v => v.noVia | .tas _ _ z => z.noVia | _ => true) = true)
 (h : apply s o vs H = some (r, H')) : r.noVia = true := by
 cases o <;> simp only [apply] at h
 case lv => exact absurd rfl hl
 case kst v => cases h; exact hk
 case bin => have h := (dI (α := V) h).1; unfold aUl at h; split at h; exact aK3 h; cases h
 case beq => have h := (dI (α := V) h).1; unfold aNm at h; split at h <;> cases h; rfl
 case peq => have h := (dI (α := V) h).1; unfold aNn at h; split at h; (obtain ⟨_, _, e⟩ := Option.map_eq_some_iff.1 h; cases e; rfl); cases h
 case ieq => have h := (dI (α := V) h).1; unfold aNo at h; split at h; (obtain ⟨_, _, e⟩ := Option.map_eq_some_iff.1 h; cases e; rfl); cases h
 case un => have h := (dI (α := V) h).1; unfold aUn at h; split at h; exact aMe h; cases h
 case fa => have h := (dI (α := V) h).1; unfold aFa at h; split at h <;> cases h <;> rfl
 case ix => have h := (dI (α := V) h).1; unfold aIx at h; split at h <;> first | (split at h <;> cases h; rfl) | cases h
 case ixa => have h := (dI (α := V) h).1; unfold Z3 at h; split at h <;> first | (split at h <;> cases h; rfl) | cases h
 case ld => have h := (dI (α := V) h).1; unfold aLd at h; split at h <;> first | (obtain ⟨u, _, e⟩ := Option.map_eq_some_iff.1 h; cases e; exact V.dis1_noVia u) | cases h
 case ldn => have h := (dI (α := V) h).1; unfold O8 at h; split at h <;> first | (obtain ⟨u, _, e⟩ := Option.map_eq_some_iff.1 h; cases e; rfl) | (split at h <;> cases h; rfl) | cases h
 case st => unfold aSt at h; split at h <;> first | (split at h <;> cases h; rfl) | cases h
 case stn => unfold aG4 at h; split at h <;> first | (split at h <;> cases h; rfl) | cases h
 case nc => have h := (dI (α := V) h).1; unfold aNc at h; split at h <;> cases h <;> rfl
 case box => unfold aKj at h; split at h <;> first | (split at h <;> cases h; rfl) | cases h
 case bfp => have h := (dI (α := V) h).1; unfold aHd at h; split at h <;> first | (split at h <;> cases h; rfl) | cases h
 case alc => split at h <;> cases h; rfl
 case bld => obtain ⟨_, _, e⟩ := Option.map_eq_some_iff.1 h; cases e; rfl
 case bsl => split at h; (obtain ⟨_, _, e⟩ := Option.map_eq_some_iff.1 h; cases e; rfl); cases h
 case fld =>
  have h := (dI (α := V) h).1; unfold aHe at h
  split at h
  ·split at h
   ·exact wU h
   ·split at h <;> cases h; rfl
  ·cases h
 case ixs => have h := (dI (α := V) h).1; unfold aHf at h; split at h <;> first | (split at h; (obtain ⟨_, _, e⟩ := Option.map_eq_some_iff.1 h; cases e; rfl); cases h) | cases h
 case ixv =>
  have h := (dI (α := V) h).1; unfold aHg at h
  split at h
  ·split at h
   ·split at h
    ·exact wU h
    ·split at h <;> cases h; rfl
   ·cases h
  ·cases h
 case slc =>
  have h := (dI (α := V) h).1; unfold aHh at h
  split at h
  ·obtain ⟨⟨l, hh⟩, _, h⟩ := Option.bind_eq_some_iff.1 h
   simp only at h
   split at h <;> cases h; rfl
  ·obtain ⟨⟨l, hh⟩, _, h⟩ := Option.bind_eq_some_iff.1 h
   simp only at h
   split at h
   ·split at h <;> cases h <;> rfl
   ·cases h
  ·cases h
 case sls => have h := (dI (α := V) h).1; unfold aKk at h; split at h <;> first | (obtain ⟨_, _, e⟩ := Option.map_eq_some_iff.1 h; cases e; rfl) | cases h
 case app => have h := (dI (α := V) h).1; unfold aQr at h; split at h; exact sF h; cases h
 case apv =>
  unfold aNs at h
  split at h
  ·split at h
   ·split at h
    ·obtain ⟨y, _, h⟩ := Option.bind_eq_some_iff.1 h
     obtain ⟨z, hz, e⟩ := Option.map_eq_some_iff.1 h
     cases e
     exact sF hz
    ·cases h
   ·obtain ⟨z, hz, e⟩ := Option.map_eq_some_iff.1 h
    cases e
    exact sF hz
  ·cases h
 case apg =>
  unfold Z5 at h
  split at h
  ·obtain ⟨q, _, h⟩ := Option.bind_eq_some_iff.1 h
   split at h
   ·split at h <;> cases h <;> rfl
   ·cases h
  ·split at h
   ·obtain ⟨cs, _, h⟩ := Option.bind_eq_some_iff.1 h
    obtain ⟨q, _, h⟩ := Option.bind_eq_some_iff.1 h
    split at h
    ·split at h <;> cases h; rfl
    ·split at h <;> cases h; rfl
   ·cases h
  ·cases h
 case clr =>
  unfold aG5 at h
  split at h
  ·split at h
   ·obtain ⟨cs, _, h⟩ := Option.bind_eq_some_iff.1 h
    split at h <;> cases h; rfl
   ·cases h
  ·cases h; rfl
  ·cases h; rfl
  ·cases h
 case cpy =>
  unfold aNq at h
  split at h
  ·split at h
   ·obtain ⟨cs, _, h⟩ := Option.bind_eq_some_iff.1 h
    obtain ⟨q, _, h⟩ := Option.bind_eq_some_iff.1 h
    split at h <;> cases h; rfl
   ·cases h
  ·cases h
 case ife => have h := (dI (α := V) h).1; unfold aNr at h; split at h; (obtain ⟨_, _, e⟩ := Option.map_eq_some_iff.1 h; cases e; rfl); cases h
 case tyo => have h := (dI (α := V) h).1; unfold aQp at h; split at h <;> first | (split at h <;> cases h; rfl) | cases h
 case cmb => have h := (dI (α := V) h).1; unfold aQq at h; split at h <;> first | (split at h <;> cases h; rfl) | cases h
 case sl3 =>
  have h := (dI (α := V) h).1; unfold aDu at h
  split at h
  ·split at h
   ·split at h <;> cases h <;> rfl
   ·cases h
  ·cases h
 case len => have h := (dI (α := V) h).1; unfold aHi at h; split at h <;> cases h <;> rfl
 case mx =>
  have h := (dI (α := V) h).1; unfold aMx at h
  split at h
  ·exact I2 (hv (.inl rfl) _ (List.mem_cons_self ..)) h
  ·cases h
 case mn =>
  have h := (dI (α := V) h).1; unfold aMn at h
  split at h
  ·exact I2 (hv (.inr rfl) _ (List.mem_cons_self ..)) h
  ·cases h
 case cvi => have h := (dI (α := V) h).1; unfold aNt at h; split at h <;> cases h; rfl
 case cvs => have h := (dI (α := V) h).1; unfold aNu at h; split at h <;> cases h; rfl
 case b2s => have h := (dI (α := V) h).1; unfold aHj at h; split at h <;> first | (split at h; (obtain ⟨_, _, e⟩ := Option.map_eq_some_iff.1 h; cases e; rfl); cases h) | cases h
 case s2b => have h := (dI (α := V) h).1; unfold aNv at h; split at h <;> cases h; rfl
 case mif => have h := (dI (α := V) h).1; unfold aNw at h; split at h <;> first | (split at h <;> cases h; rfl) | cases h
 case tas t ok z =>
  have h := (dI (α := V) h).1; unfold aHk at h
  split at h
  ·split at h
   ·cases h
    split
    ·rfl
    ·exact V.dis_noVia _
   ·split at h <;> cases h; rfl
  ·split at h <;> cases h; rfl
  ·cases h
 case tai =>
  have h := (dI (α := V) h).1; unfold aHl at h
  split at h
  ·split at h
   ·cases h
    split <;> rfl
   ·split at h <;> cases h; rfl
  ·split at h <;> cases h; rfl
  ·cases h
 case ext => have h := (dI (α := V) h).1; unfold aHm at h; split at h; exact wU h; cases h
 case mkf => split at h <;> cases h; rfl
 case mks => unfold aHn at h; split at h <;> first | (split at h <;> cases h; rfl) | cases h
 case mkv => have h := (dI (α := V) h).1; unfold aDv at h; split at h <;> first | (split at h <;> cases h; rfl) | cases h
 case pan => cases h
theorem aFd {i : I} : s8 i = true ↔ ∃ xs, i = .op .lv xs := by
 unfold s8
 split
 ·exact ⟨fun _ => ⟨_, rfl⟩, fun _ => rfl⟩
 ·rename_i h
  exact ⟨fun k => (by cases k), fun ⟨xs, k⟩ => absurd k (h xs)⟩
theorem U3 {r : eJ} (hc : nE L r = true) (h1 : s8 r.2.2 = false) (h2 : ∀ a b xs, r.2.2 ≠ .op (.apv a b) xs) : iK r.2.2 = true ∧ (∀ t ∈ oJ r, t ∉ L) ∧ ∀ t, r.1 = some t → t ∉ L := by
 unfold nE at hc
 simp only [Bool.and_eq_true] at hc
 obtain ⟨⟨c1, c2⟩, c3⟩ := hc
 have n1 : ∀ xs, r.2.2 ≠ .op .lv xs := fun xs k => by rw [k] at h1; cases h1
 refine ⟨c1, ?_, ?_⟩
 ·split at c2
  ·rename_i xs k; exact absurd k (n1 xs)
  ·rename_i a b xs k; exact absurd k (h2 a b xs)
  ·rw [B1] at c2
   exact fun t ht k => c2 t k ht
 ·split at c3
  ·rename_i xs k; exact absurd k (n1 xs)
  ·rw [B1] at c3
   exact fun t ht k => c3 t k (by simp [ht])
theorem aH1 (hT : OrcOK T pure) {r : eJ} {e e' : aQ} {H H' : aB} {v : V} (hL : LInv L e) (hc : nE L r = true) (hl : s8 r.2.2 = false) (h : step T s r.2.2 e H = some (v, e', H')) : v.noVia = true := by
 obtain ⟨d, g, i⟩ := r
 simp only at hl h
 by_cases h2 : ∃ a b xs, i = .op (.apv a b) xs
 ·obtain ⟨a, b, xs, rfl⟩ := h2
  obtain ⟨vs, k1, k2, _⟩ := G7 h
  exact L2 (fun k => by rcases k with k | k <;> cases k) (fun k => by cases k) rfl k2
 ·obtain ⟨c1, c2, c3⟩ := U3 hc hl fun a b xs k => h2 ⟨a, b, xs, k⟩
  have c2' : ∀ t ∈ iR i, t ∉ L := fun t ht => c2 t (List.mem_append_left _ ht)
  cases i with
  | mv x =>
    obtain ⟨p, h1, h2⟩ := Option.map_eq_some_iff.1 (show (eI x e).map (fun r => (r.1, r.2, H)) = some (v, e', H') from h)
    cases h2
    exact I0 hL c2' c1 h1
  | op o xs =>
    obtain ⟨vs, k1, k2, _⟩ := G7 h
    simp only [iK, Bool.and_eq_true] at c1
    refine L2 (fun _ => aC4 hL c2' c1.1 k1) (fun k => ?_) ?_ k2
    ·subst k; cases hl
    ·have := c1.2; cases o <;> first | rfl | exact this
  | pick c x y =>
    simp only [step, Option.bind_eq_some_iff] at h
    obtain ⟨⟨u, e1⟩, h1, h⟩ := h
    cases u <;> try cases h
    rename_i b
    obtain ⟨p, h2, h3⟩ := Option.map_eq_some_iff.1 h
    cases h3
    simp only [iK, Bool.and_eq_true] at c1
    refine I0 (hL.sub (tQ h1)) (fun t ht => c2' t ?_) ?_ h2
    ·simp only [iR, List.mem_append]
     cases b
     ·exact .inr ht
     ·exact .inl (.inr ht)
    ·cases b
     ·exact c1.2
     ·exact c1.1.2
  | exm j t =>
    simp only [step] at h
    split at h
    ·rename_i vs hg
     obtain ⟨u, hu, e1⟩ := Option.map_eq_some_iff.1 h
     cases e1
     exact wU hu
    ·cases h
  | call f xs nw =>
    simp only [step, Option.bind_eq_some_iff] at h
    obtain ⟨⟨vs, e1⟩, h1, h⟩ := h
    split at h
    ·obtain ⟨⟨q, K⟩, k2, h3⟩ := Option.map_eq_some_iff.1 h
     cases h3
     exact hT.noVia _ _ _ _ _ _ (qI k2).1
    ·cases h
  | cav x xs =>
    simp only [step, Option.bind_eq_some_iff] at h
    obtain ⟨⟨u, e0⟩, h0, h⟩ := h
    cases u <;> try cases h
    simp only [Option.bind_eq_some_iff] at h
    obtain ⟨⟨vs, e1⟩, h1, h⟩ := h
    split at h
    ·obtain ⟨⟨q, K⟩, k2, h3⟩ := Option.map_eq_some_iff.1 h
     cases h3
     exact hT.noVia _ _ _ _ _ _ k2
    ·cases h
  | cam tbl x xs =>
    simp only [step, Option.bind_eq_some_iff] at h
    obtain ⟨⟨u, e0⟩, h0, h⟩ := h
    cases u <;> try cases h
    simp only at h
    split at h
    ·simp only [Option.bind_eq_some_iff] at h
     obtain ⟨⟨vs, e1⟩, h1, h⟩ := h
     split at h
     ·obtain ⟨⟨q, K⟩, k2, h3⟩ := Option.map_eq_some_iff.1 h
      cases h3
      exact hT.noVia _ _ _ _ _ _ k2
     ·cases h
    ·cases h
def lvIn (L : List Nat) (r : eJ) : Prop := s8 r.2.2 = true → ∀ t, r.1 = some t → t ∈ L
theorem U4 (hT : OrcOK T pure) {r : eJ} {e e' : aQ} {H H' : aB} (hL : LInv L e) (hc : nE L r = true) (hl : lvIn L r) (h : lA T s r e H = some (e', H')) : LInv L e' := by
 rcases fS h with ⟨_, _, _, k⟩ | ⟨v, e1, k1, k2, _⟩
 ·subst k
  exact hL.put (.inl rfl)
 ·subst k2
  refine (aK2 hL k1).put ?_
  cases hv : s8 r.2.2 with
  | true => exact .inr (hl hv)
  | false => exact .inl (aH1 hT hL hc hv k1)
theorem aIf (hT : OrcOK T pure) {i : I} (h : chk T i = true) : jJ pure i = .W ∨ jJ pure i = .U := by
 cases i with
 | op o xs => rw [vA]; cases o <;> first | (cases h; done) | exact .inl rfl | exact .inr rfl
 | call f xs nw =>
   simp only [chk, Bool.not_eq_true'] at h
   simp only [jJ]
   cases hp : pure f with
   | true => rw [hT.pu f hp] at h; cases h
   | false => exact .inr rfl
 | cav x xs => exact .inr rfl
 | cam t x xs => exact .inr rfl
 | _ => cases h
theorem aIg {i : I} (h : jJ pure i = .S ∨ jJ pure i = .R) : ∀ a b xs, i ≠ .op (.apv a b) xs := by
 rintro a b xs rfl
 rcases h with h | h <;> cases h
theorem aFe {i : I} (h : jJ pure i = .S) : s8 i = false := by
 cases hv : s8 i with
 | false => rfl
 | true => obtain ⟨xs, rfl⟩ := aFd.1 hv; cases h
theorem aH2 {a b : eJ} (hp : zE pure conf free fps a b = true) (hb : jJ pure b.2.2 = .W ∨ jJ pure b.2.2 = .U) : (jJ pure a.2.2 = .S ∨ jJ pure a.2.2 = .R) ∧ s8 a.2.2 = false := by
 unfold zE at hp
 cases ha : jJ pure a.2.2 with
 | S => exact ⟨.inl rfl, aFe ha⟩
 | R =>
   refine ⟨.inr rfl, ?_⟩
   rcases hb with hb | hb <;> rw [ha, hb] at hp <;> simp only [Bool.and_eq_true, Bool.not_eq_true'] at hp
   ·exact hp.1.1.2
   ·exact hp.2
 | _ => rcases hb with hb | hb <;> rw [ha, hb] at hp <;> cases hp
theorem aH3 {a b : eJ} (hp : zE pure conf free fps a b = true) (hb : jJ pure a.2.2 = .W ∨ jJ pure a.2.2 = .U) : (jJ pure b.2.2 = .S ∨ jJ pure b.2.2 = .R) ∧ s8 b.2.2 = false := by
 unfold zE at hp
 cases ha : jJ pure b.2.2 with
 | S => exact ⟨.inl rfl, aFe ha⟩
 | R =>
   refine ⟨.inr rfl, ?_⟩
   rcases hb with hb | hb <;> rw [ha, hb] at hp <;> simp only [Bool.and_eq_true, Bool.not_eq_true'] at hp
   ·exact hp.1.2
   ·exact hp.2
 | _ => rcases hb with hb | hb <;> rw [ha, hb] at hp <;> cases hp
theorem aC5 {r : eJ} (hc : nE L r = true) (h1 : s8 r.2.2 = false) (h2 : ∀ a b xs, r.2.2 ≠ .op (.apv a b) xs) : ∀ t ∈ nG r, t ∉ L := by
 obtain ⟨_, c2, c3⟩ := U3 hc h1 h2
 intro t ht
 simp only [nG, List.mem_append, Option.mem_toList] at ht
 rcases ht with ht | ht
 ·exact c2 t (List.mem_append_left _ (aHa _ t ht))
 ·exact c3 t ht
theorem swap (hT : OrcOK T pure) {a b : eJ} {e e1 e2 : aQ} {H H1 H2 : aB} (h1 : lA T s a e H = some (e1, H1)) (h2 : lA T s b e1 H1 = some (e2, H2)) (hi : zG pure conf free fps a b = true)
 (ca : nE L a = true) (cb : nE L b = true) (la : lvIn L a) (lb : lvIn L b) (hn : (cY e).Nodup) (hL : LInv L e) (F : Facts conf free fps a b e H) :
 ∃ f1 G1 f2, lA T s b e H = some (f1, G1) ∧ lA T s a f1 G1 = some (f2, H2) ∧ EEq f2 e2 := by
 simp only [zG, Bool.and_eq_true] at hi
 obtain ⟨⟨⟨d1, d2⟩, d3⟩, hp⟩ := hi
 rw [B1] at d1 d2 d3
 have kA := kE h1 hn
 have kB := kE h2 kA.nodup
 have hd : ∀ t ∈ oJ b, eget e1 t = eget e t := fun t ht => kA.out t fun k => d1 t k ht
 have iKa : iK a.2.2 = true := by unfold nE at ca; simp only [Bool.and_eq_true] at ca; exact ca.1.1
 have iKb : iK b.2.2 = true := by unfold nE at cb; simp only [Bool.and_eq_true] at cb; exact cb.1.1
 obtain ⟨G1, g1, g2⟩ := aJm hT h1 h2 hp iKa iKb hd F
 obtain ⟨f1, x1, x2, x3⟩ := (kE g1 kA.nodup).same e hn (fun t ht => (hd t ht).symm) fun hc => by
  obtain ⟨y1, y2⟩ := aH2 hp (aIf hT hc)
  intro t v hv
  by_cases hw : t ∈ nG a
  ·exact .inl (hL t v (aC5 ca y2 (aIg y1) t hw) hv)
  ·exact .inr (by rw [kA.out t hw]; exact hv)
 obtain ⟨f2, z1, z2, z3⟩ := (kE g2 hn).same f1 (kE x1 hn).nodup (fun t ht => x2 t fun k => d3 t k ht) fun hc => by
  obtain ⟨y1, y2⟩ := aH3 hp (aIf hT hc)
  have hL1 := U4 hT hL cb lb x1
  intro t v hv
  by_cases hw : t ∈ nG b
  ·exact .inl (hL1 t v (aC5 cb y2 (aIg y1) t hw) hv)
  ·exact .inr (by rw [← x2 t hw]; exact hv)
 refine ⟨f1, G1, f2, x1, z1, fun t => ?_⟩
 by_cases hwa : t ∈ nG a
 ·rw [z3 t hwa, kB.out t (d2 t hwa)]
 ·rw [z2 t hwa]
  by_cases hwb : t ∈ nG b
  ·exact x3 t hwb
  ·rw [x2 t hwb, kB.out t hwb, kA.out t hwa]
end
end Go.Abs
namespace Go.Abs
section
variable {T : Orc} {pure : FuncId → Bool} {s : Option Nat} {L free fps : List Nat} {conf : List (Nat × Nat × Nat × Nat)}
theorem c9 {t : Nat} {r : eJ} {rs : List eJ} (h : dR t (r :: rs) = true) (hr : t ∈ oJ r) : ∀ x ∈ r :: rs, t ∉ nG x := by
 unfold dR at h
 rw [if_pos (by simpa using hr), List.all_eq_true] at h
 intro x hx k
 have := h x hx
 simp only [Bool.not_eq_true', List.contains_eq_mem, decide_eq_false_iff_not] at this
 exact this k
theorem y5 {t : Nat} : ∀ {rs : List eJ}, (∀ x ∈ rs, t ∉ nG x) → dR t rs = true
 | [], _ => rfl
 | r :: rs, h => by
   unfold dR
   split
   ·exact List.all_eq_true.2 fun x hx => by
     have := h x hx
     simp [this]
   ·exact y5 fun x hx => h x (List.mem_cons_of_mem _ hx)
theorem L4 {t : Nat} {r : eJ} {rs : List eJ} (h : dR t (r :: rs) = true) : dR t rs = true := by
 unfold dR at h
 split at h
 ·rw [List.all_eq_true] at h
  refine y5 fun x hx k => ?_
  have := h x (List.mem_cons_of_mem _ hx)
  simp only [Bool.not_eq_true', List.contains_eq_mem, decide_eq_false_iff_not] at this
  exact this k
 ·exact h
theorem qG {t : Nat} {l l' : List eJ} (k : l'.Sublist l) : dR t l = true → dR t l' = true := by
 induction k with
 | slnil => exact id
 | cons r _ ih => exact fun h => ih (L4 h)
 | cons_cons r hs ih =>
   intro h
   by_cases hr : t ∈ oJ r
   ·have := c9 h hr
    exact y5 fun x hx => this x ((List.Sublist.cons_cons r hs).subset hx)
   ·have h2 := L4 h
    unfold dR
    rw [if_neg (by simpa using hr)]
    exact ih h2
theorem aB3 {t : Nat} (pre : List eJ) {suf : List eJ} (h : dR t (pre ++ suf) = true) : dR t suf = true := qG (List.sublist_append_right pre suf) h
theorem W9 : ∀ {conf : List (Nat × Nat × Nat × Nat)} {e : aQ}, nK conf e = true → ∀ t n u m, (t, n, u, m) ∈ conf → fK (eget e t) n (eget e u) m = true
 | [], _, _, _, _, _, _, h => by cases h
 | (a, b, c, d) :: r, e, h, t, n, u, m, hm => by
   simp only [nK, Bool.and_eq_true] at h
   rcases List.mem_cons.1 hm with k | k
   ·cases k; exact h.1
   ·exact W9 h.2 t n u m k
theorem X0 : ∀ {free : List Nat} {e : aQ}, hU free e = true → ∀ t ∈ free, ∀ v, eget e t = some v → v.rb 0 = true
 | [], _, _, _, h, _, _ => by cases h
 | a :: r, e, h, t, hm, v, hv => by
   simp only [hU, Bool.and_eq_true] at h
   rcases List.mem_cons.1 hm with k | k
   ·subst k
    have := h.1
    rw [hv] at this
    exact this
   ·exact X0 h.2 t k v hv
theorem aC7 : ∀ {fps : List Nat} {e : aQ}, sS fps e = true → ∀ t ∈ fps, ∀ id o, eget e t ≠ some (.ptr id o)
 | [], _, _, _, h, _, _ => by cases h
 | a :: r, e, h, t, hm, id, o => by
   simp only [sS, Bool.and_eq_true] at h
   rcases List.mem_cons.1 hm with k | k
   ·subst k
    intro hv
    have := h.1
    rw [hv] at this
    cases this
   ·exact aC7 h.2 t k id o
theorem X1 : ∀ {conf : List (Nat × Nat × Nat × Nat)} {e f : aQ}, EEq e f → nK conf e = nK conf f
 | [], _, _, _ => rfl
 | (a, b, c, d) :: r, e, f, h => by simp only [nK, h a, h c, X1 (conf := r) h]
theorem X2 : ∀ {free : List Nat} {e f : aQ}, EEq e f → hU free e = hU free f
 | [], _, _, _ => rfl
 | a :: r, e, f, h => by simp only [hU, h a, X2 (free := r) h]
theorem aC8 : ∀ {fps : List Nat} {e f : aQ}, EEq e f → sS fps e = sS fps f
 | [], _, _, _ => rfl
 | a :: r, e, f, h => by simp only [sS, h a, aC8 (fps := r) h]
theorem aPt (hT : OrcOK T pure) {r : eJ} {e e' : aQ} {H H' : aB} (hc : jJ pure r.2.2 ≠ .U) (h : lA T s r e H = some (e', H')) : H.length ≤ H'.length := by
 cases hk : jJ pure r.2.2 with
 | S => rw [(aLr hk h).1]; exact Nat.le_refl _
 | R => rw [(zH hk h).1]; exact Nat.le_refl _
 | A => obtain ⟨X, hX⟩ := aLs hk h; rw [hX]; simp
 | C => rw [S6 hT hk h]; exact Nat.le_refl _
 | U => exact absurd hk hc
 | W =>
   rcases fS h with ⟨h1, _⟩ | ⟨v, e1, h1, h2, h3⟩
   ·rw [h1]; exact Nat.le_refl _
   ·obtain ⟨o, xs, hi⟩ := G8 hk (.inr (.inr rfl))
    rw [hi] at h1 hk
    obtain ⟨vs, k1, k2, k3⟩ := G7 h1
    rw [vA] at hk
    cases o <;> simp only at hk <;> try cases hk
    ·simp only [apply] at k2
     unfold aSt at k2
     split at k2
     ·split at k2 <;> cases k2
      unfold yV; simp
     ·cases k2
    ·simp only [apply] at k2
     unfold aG4 at k2
     split at k2
     ·split at k2 <;> cases k2
      simp
     ·cases k2
structure Coming (T : Orc) (pure : FuncId → Bool) (L free fps : List Nat) (conf : List (Nat × Nat × Nat × Nat)) (rs : List eJ) (E : aQ) : Prop where
 ccalm : ∀ r ∈ rs, nE L r = true ∧ lvIn L r
 cconf : nK conf E = true
 cfree : hU free E = true
 cfps : sS fps E = true
 sconf : ∀ t n u m, (t, n, u, m) ∈ conf → dR t rs = true ∧ dR u rs = true
 sfree : ∀ t ∈ free, dR t rs = true
 sfps : ∀ t ∈ fps, dR t rs = true
theorem Coming.subl {rs rs' : List eJ} {E : aQ} (h : Coming T pure L free fps conf rs E) (k : rs'.Sublist rs) : Coming T pure L free fps conf rs' E :=
 ⟨fun r hr => h.ccalm r (k.subset hr), h.cconf, h.cfree, h.cfps, fun t n u m hm => ⟨qG k (h.sconf t n u m hm).1, qG k (h.sconf t n u m hm).2⟩, fun t ht => qG k (h.sfree t ht), fun t ht => qG k (h.sfps t ht)⟩
theorem Coming.eeq {rs : List eJ} {E E' : aQ} (h : Coming T pure L free fps conf rs E) (k : EEq E E') : Coming T pure L free fps conf rs E' :=
 ⟨h.ccalm, by rw [← X1 k]; exact h.cconf, by rw [← X2 k]; exact h.cfree, by rw [← aC8 k]; exact h.cfps, h.sconf, h.sfree, h.sfps⟩
theorem n6 {a b : eJ} (h : zG pure conf free fps a b = true) : ∀ t ∈ oJ b, t ∉ nG a := by
 simp only [zG, Bool.and_eq_true] at h
 have := B1.1 h.1.1.1
 exact fun t ht k => this t k ht
theorem aPu {pre post : List eJ} {b : eJ} {e E : aQ} {H HE : aB} {t : Nat} (hr : lB T s (pre ++ b :: post) e H = some (E, HE)) (hn : (cY e).Nodup) (hi : ∀ a ∈ pre, zG pure conf free fps a b = true)
 (hs : dR t (pre ++ b :: post) = true) (ht : t ∈ oJ b) : eget e t = eget E t := by
 refine (J6 hr hn fun x hx => ?_).symm
 rcases List.mem_append.1 hx with hx | hx
 ·exact n6 (hi x hx) t ht
 ·exact c9 (aB3 pre hs) ht x hx
theorem aMr (hT : OrcOK T pure) : ∀ (pre : List eJ) {b : eJ} {post : List eJ} {e E : aQ} {H HE : aB}, lB T s (pre ++ b :: post) e H = some (E, HE) → (cY e).Nodup → LInv L e →
 Coming T pure L free fps conf (pre ++ b :: post) E → (∀ a ∈ pre, zG pure conf free fps a b = true) → (∀ t n, place b.2.2 = some (t, n) → t ∈ fps ∨ ∀ v, eget e t = some v → v.rb H.length = true) →
 ∃ f1 G1 E', lA T s b e H = some (f1, G1) ∧ lB T s (pre ++ post) f1 G1 = some (E', HE) ∧ EEq E E'
 | [], b, post, e, E, H, HE, hr, hn, hL, hc, hi, hb => by
   obtain ⟨⟨e1, H1⟩, h1, h2⟩ := Option.bind_eq_some_iff.1 (show (lA T s b e H).bind (fun q => lB T s post q.1 q.2) = some (E, HE) from hr)
   exact ⟨e1, H1, E, h1, h2, EEq.refl _⟩
 | a :: pre, b, post, e, E, H, HE, hr, hn, hL, hc, hi, hb => by
   obtain ⟨⟨e1, H1⟩, h1, h2⟩ := Option.bind_eq_some_iff.1 (show (lA T s a e H).bind (fun q => lB T s (pre ++ b :: post) q.1 q.2) = some (E, HE) from hr)
   have hia := hi a (List.mem_cons_self ..)
   have ca := hc.ccalm a (List.mem_cons_self ..)
   have cb := hc.ccalm b (List.mem_cons_of_mem _ (List.mem_append_right _ (List.mem_cons_self ..)))
   have kA := kE h1 hn
   have hd := n6 hia
   have hlen : (∀ t n, place b.2.2 = some (t, n) → t ∈ fps) ∨ H.length ≤ H1.length := by
    by_cases hw : aEv a.2.2 = true
    ·obtain ⟨X, hX⟩ := aD5 hw h1
     right; rw [hX, List.length_append]; omega
    by_cases hO : ∃ u, s6 a.2.2 = some u
    ·obtain ⟨u, hO⟩ := hO
     exact .inr (S7 hO h1).1
    by_cases hK : ∃ u, s7 a.2.2 = some u
    ·obtain ⟨u, hK⟩ := hK
     exact .inr (S8 hK h1).1
    by_cases hu : jJ pure a.2.2 = .U
    ·left
     intro t n hp
     simp only [zG, Bool.and_eq_true] at hia
     have := hia.2
     unfold zE at this
     rw [hu] at this
     have hb2 : jJ pure b.2.2 = .R ∨ jJ pure b.2.2 = .S := by
      cases hk : jJ pure b.2.2 <;> rw [hk] at this <;> first | exact .inl rfl | exact .inr rfl | cases this
     rcases hb2 with hk | hk
     ·rw [hk] at this
      simp only [Bool.and_eq_true, Bool.or_eq_true] at this
      obtain ⟨t', n', p1, p2⟩ := T0 (by
       rcases this.1 with ((q | q) | q) | q
       ·exact q
       ·exact absurd q.1 hw
       ·split at q
        ·exact absurd ⟨_, by assumption⟩ hO
        ·cases q
       ·split at q
        ·exact absurd ⟨_, by assumption⟩ hK
        ·cases q)
      rw [p1] at hp
      cases hp
      exact p2
     ·exfalso
      unfold place at hp
      split at hp <;> first | (rename_i hh; rw [hh, vA] at hk; cases hk) | cases hp
    ·exact .inr (aPt hT hu h1)
   obtain ⟨g1, K1, E', i1, i2, i3⟩ := aMr hT pre h2 kA.nodup (U4 hT hL ca.1 ca.2 h1) (hc.subl (List.sublist_cons_self ..)) (fun x hx => hi x (List.mem_cons_of_mem _ hx)) fun t n hp => by
    rcases hlen with k | k
    ·exact .inl (k t n hp)
    ·refine (hb t n hp).imp id fun q v hv => ?_
     rw [kA.out t (hd t (bV (fD hp)))] at hv
     exact V.rb_mono k v (q v hv)
   have sA : ∀ t, dR t (a :: (pre ++ b :: post)) = true → t ∈ oJ a → eget e t = eget E t := fun t hs ht =>
    (J6 (show lB T s (a :: (pre ++ b :: post)) e H = some (E, HE) from hr) hn fun x hx => c9 hs ht x hx).symm
   have sB : ∀ t, dR t (a :: (pre ++ b :: post)) = true → t ∈ oJ b → eget e t = eget E t := fun t hs ht =>
    aPu (pre := a :: pre) (pure := pure) (conf := conf) (free := free) (fps := fps) hr hn hi hs ht
   have F : Facts conf free fps a b e H := by
    refine ⟨fun t n u m hm ht hu => ?_, fun t ht hr' v hv => ?_, fun t ht hr' id o hv => ?_, fun t n hp => hb t n hp⟩
    ·rw [sA t (hc.sconf t n u m hm).1 ht, sB u (hc.sconf t n u m hm).2 hu]
     exact W9 hc.cconf t n u m hm
    ·have : eget e t = eget E t := hr'.elim (sA t (hc.sfree t ht)) (sB t (hc.sfree t ht))
     exact X0 hc.cfree t ht v (by rw [← this]; exact hv)
    ·have : eget e t = eget E t := hr'.elim (sA t (hc.sfps t ht)) (sB t (hc.sfps t ht))
     exact aC7 hc.cfps t ht id o (by rw [← this]; exact hv)
   obtain ⟨f1, G1, f2, x1, x2, x3⟩ := swap hT h1 i1 hia ca.1 cb.1 ca.2 cb.2 hn hL F
   have n1 := (kE x1 hn).nodup
   obtain ⟨E'', y1, y2⟩ := aG1 i2 (kE i1 kA.nodup).nodup (kE x2 n1).nodup x3.symm
   refine ⟨f1, G1, E'', x1, ?_, i3.trans y2⟩
   show (lA T s a f1 G1).bind (fun q => lB T s (pre ++ post) q.1 q.2) = some (E'', HE)
   rw [x2]
   exact y1
end
end Go.Abs
