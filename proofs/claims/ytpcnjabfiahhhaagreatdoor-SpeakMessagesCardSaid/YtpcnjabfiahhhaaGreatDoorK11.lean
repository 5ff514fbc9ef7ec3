/- A part of the proof of RowSpeakOffers, RowSpeakMessages: lemmas alone, without conditions. -/
import Derived.Test.YtpcnjabfiahhhaaGreatDoorK10
set_option linter.all false
namespace Go.Abs
structure OrcOK (T : Orc) (pure : FuncId → Bool) : Prop where
 pu : ∀ f, pure f = true → T.pu f = true
 same : ∀ s f args H r H', T.run s f args H = some (r, H') → T.pu f = true → H' = H
 noVia : ∀ s f args H r H', T.run s f args H = some (r, H') → r.noVia = true
 free : ∀ s f args H r H', T.pu f = true → T.run s f args H = some (r, H') → V.rbL 0 args = true → ∀ G, T.run s f args G = some (r, G)
section
variable {T : Orc} {pure : FuncId → Bool} {s : Option Nat} {L free fps : List Nat} {conf : List (Nat × Nat × Nat × Nat)}
theorem gW {r : jL} {e e' : aZ} {H H' : aC} (h : kZ T s r e H = some (e', H')) :
 (H' = H ∧ r.2.1 ≠ none ∧ (∀ G, kZ T s r e G = some (e', G)) ∧ e' = aA1 e r.1) ∨ ∃ v e1, step T s r.2.2 e H = some (v, e1, H') ∧ e' = oJ e1 r.1 v ∧ ∀ G G', step T s r.2.2 e G = some (v, e1, G') → kZ T s r e G = some (e', G') := by
 obtain ⟨d, g, i⟩ := r
 cases g with
 | none =>
   obtain ⟨⟨v, e1, H1⟩, h1, h2⟩ := Option.map_eq_some_iff.1 (show (step T s i e H).map (fun r => (oJ r.2.1 d r.1, r.2.2)) = some (e', H') from h)
   cases h2
   exact .inr ⟨v, e1, h1, rfl, fun G G' hG => by show (step T s i e G).map _ = _; rw [hG]; rfl⟩
 | some gw =>
   obtain ⟨g, want⟩ := gw
   simp only [kZ] at h
   cases hc : eget e g with
   | none => rw [hc] at h; cases h
   | some v =>
     rw [hc] at h
     cases v <;> try cases h
     case tup.refl => exact .inl ⟨rfl, by simp, fun G => by simp only [kZ, hc], rfl⟩
     rename_i c
     simp only at h
     by_cases hcw : c = want
     ·rw [if_pos hcw] at h
      obtain ⟨⟨v, e1, H1⟩, h1, h2⟩ := Option.map_eq_some_iff.1 h
      cases h2
      exact .inr ⟨v, e1, h1, rfl, fun G G' hG => by simp only [kZ, hc, if_pos hcw, hG, Option.map_some]⟩
     ·rw [if_neg hcw] at h
      cases h
      exact .inl ⟨rfl, by simp, fun G => by simp only [kZ, hc, if_neg hcw], rfl⟩
theorem aXi {i : I} {e e' : aZ} {H H' : aC} {v : V} (hc : jZ pure i = .S) (h : step T s i e H = some (v, e', H')) : H' = H ∧ ∀ G, step T s i e G = some (v, e', G) := by
 cases i with
 | mv x =>
   obtain ⟨p, h1, h2⟩ := Option.map_eq_some_iff.1 (show (gQ x e).map (fun r => (r.1, r.2, H)) = some (v, e', H') from h)
   cases h2
   exact ⟨rfl, fun G => by simp only [step, h1, Option.map_some]⟩
 | op o xs =>
   simp only [step, Option.bind_eq_some_iff] at h
   obtain ⟨⟨vs, e1⟩, h1, h⟩ := h
   split at h
   ·rename_i hw
    obtain ⟨⟨q, K⟩, h2, h3⟩ := Option.map_eq_some_iff.1 h
    cases h3
    obtain ⟨a1, a2⟩ := aS1 hc h2
    refine ⟨a1, fun G => ?_⟩
    simp only [step, h1, Option.bind_some]
    rw [if_pos hw, a2 G]; rfl
   ·cases h
 | pick c x y =>
   simp only [step, Option.bind_eq_some_iff] at h
   obtain ⟨⟨u, e1⟩, h1, h⟩ := h
   cases u <;> try cases h
   rename_i b
   obtain ⟨p, h2, h3⟩ := Option.map_eq_some_iff.1 h
   cases h3
   exact ⟨rfl, fun G => by simp only [step, h1, Option.bind_some, h2, Option.map_some]⟩
 | exm j t =>
   simp only [step] at h
   split at h
   ·rename_i vs hg
    obtain ⟨u, hu, e1⟩ := Option.map_eq_some_iff.1 h
    cases e1
    exact ⟨rfl, fun G => by simp only [step, hg, hu, Option.map_some]⟩
   ·cases h
 | call f xs nw => simp only [jZ] at hc; split at hc <;> cases hc
 | cav x xs => cases hc
 | cam tbl x xs => cases hc
theorem aQp {r : jL} {e e' : aZ} {H H' : aC} (hc : jZ pure r.2.2 = .S) (h : kZ T s r e H = some (e', H')) : H' = H ∧ ∀ G, kZ T s r e G = some (e', G) := by
 rcases gW h with ⟨h1, _, h2, _⟩ | ⟨v, e1, h1, h2, h3⟩
 ·exact ⟨h1, h2⟩
 ·obtain ⟨a1, a2⟩ := aXi hc h1
  exact ⟨a1, fun G => h3 G G (a2 G)⟩
theorem E2 {o : O} {xs : List X} {e e' : aZ} {H H' : aC} {v : V} (h : step T s (.op o xs) e H = some (v, e', H')) : ∃ vs, fT xs e = some (vs, e') ∧ apply s o vs H = some (v, H') ∧
 ∀ G G', apply s o vs G = some (v, G') → step T s (.op o xs) e G = some (v, e', G') := by
 simp only [step, Option.bind_eq_some_iff] at h
 obtain ⟨⟨vs, e1⟩, h1, h⟩ := h
 split at h
 ·rename_i hw
  obtain ⟨⟨q, K⟩, h2, h3⟩ := Option.map_eq_some_iff.1 h
  cases h3
  refine ⟨vs, h1, h2, fun G G' hG => ?_⟩
  simp only [step, h1, Option.bind_some]
  rw [if_pos hw, hG]; rfl
 ·cases h
theorem E3 {i : I} {c : Cls} (hc : jZ pure i = c) (h : c = .R ∨ c = .A ∨ c = .W) : ∃ o xs, i = .op o xs := by
 cases i with
 | op o xs => exact ⟨o, xs, rfl⟩
 | call f xs nw => simp only [jZ] at hc; split at hc <;> subst hc <;> simp at h
 | _ => simp only [jZ] at hc; subst hc; simp at h
theorem zJ {r : jL} {e e' : aZ} {H H' : aC} (hc : jZ pure r.2.2 = .R) (h : kZ T s r e H = some (e', H')) : H' = H ∧ ∀ X, kZ T s r e (H ++ X) = some (e', H ++ X) := by
 rcases gW h with ⟨h1, _, h2, _⟩ | ⟨v, e1, h1, h2, h3⟩
 ·exact ⟨h1, fun X => h2 _⟩
 ·obtain ⟨o, xs, hi⟩ := E3 hc (.inl rfl)
  rw [hi] at h1 hc h3
  obtain ⟨vs, k1, k2, k3⟩ := E2 h1
  exact ⟨aS2 hc k2, fun X => h3 _ _ (k3 _ _ (aFp hc k2))⟩
theorem aQq {r : jL} {e e' : aZ} {H H' : aC} (hc : jZ pure r.2.2 = .A) (h : kZ T s r e H = some (e', H')) : ∃ X, H' = H ++ X := by
 rcases gW h with ⟨h1, _⟩ | ⟨v, e1, h1, h2, h3⟩
 ·exact ⟨[], by simp [h1]⟩
 ·obtain ⟨o, xs, hi⟩ := E3 hc (.inr (.inl rfl))
  rw [hi] at h1 hc
  obtain ⟨vs, k1, k2, k3⟩ := E2 h1
  obtain ⟨x, hx⟩ := aS3 hc k2
  exact ⟨[x], hx⟩
theorem uS {r : jL} {t n : Nat} {e e' : aZ} {H H' G : aC} (hc : jZ pure r.2.2 = .R) (hp : place r.2.2 = some (t, n)) (h : kZ T s r e H = some (e', H')) (hs : S1 e t n H G) : kZ T s r e G = some (e', G) := by
 rcases gW h with ⟨h1, _, h2, _⟩ | ⟨v, e1, h1, h2, h3⟩
 ·exact h2 G
 ·exact h3 _ _ (aS4 hc hp h1 hs)
theorem aTy {r : jL} {t n u m : Nat} {e f e' : aZ} {H H' : aC} (hc : jZ pure r.2.2 = .W) (hp : place r.2.2 = some (t, n)) (h : kZ T s r e H = some (e', H'))
 (hn : ¬ (n = near ∧ m = near)) (ha : gC (eget e t) n (eget f u) m = true ∨ gC (eget f u) m (eget e t) n = true) : S1 f u m H H' := by
 rcases gW h with ⟨h1, _⟩ | ⟨v, e1, h1, h2, h3⟩
 ·subst h1; exact fun _ _ _ => rfl
 ·exact aS5 hc hp h1 hn ha
theorem J4 {i : I} (hc : jZ pure i = .C) : ∃ f xs nw, i = .call f xs nw ∧ pure f = true := by
 cases i with
 | call f xs nw => simp only [jZ] at hc; split at hc; exact ⟨f, xs, nw, rfl, by assumption⟩; cases hc
 | op o xs => rw [uM] at hc; cases o <;> cases hc
 | _ => cases hc
theorem X7 (hT : OrcOK T pure) {r : jL} {e e' : aZ} {H H' : aC} (hc : jZ pure r.2.2 = .C) (h : kZ T s r e H = some (e', H')) : H' = H := by
 rcases gW h with ⟨h1, _⟩ | ⟨v, e1, h1, h2, h3⟩
 ·exact h1
 ·obtain ⟨f, xs, nw, hi, hf⟩ := J4 hc
  rw [hi] at h1
  simp only [step, Option.bind_eq_some_iff] at h1
  obtain ⟨⟨vs, e2⟩, k1, h1⟩ := h1
  split at h1
  ·obtain ⟨⟨q, K⟩, k2, k3⟩ := Option.map_eq_some_iff.1 h1
   cases k3
   exact hT.same _ _ _ _ _ _ (qE k2).1 (hT.pu f hf)
  ·cases h1
theorem M2 : ∀ {H K : aC}, pre H K = true → ∃ X, K = H ++ X
 | [], K, _ => ⟨K, rfl⟩
 | a :: r, b :: s, h => by
   simp only [pre, Bool.and_eq_true] at h
   obtain ⟨X, hX⟩ := M2 h.2
   exact ⟨X, by rw [hX, St.eqL_eq _ _ h.1]; rfl⟩
 | _ :: _, [], h => by cases h
theorem aEd {r : jL} {e e' : aZ} {H H' : aC} (hc : aEx r.2.2 = true) (h : kZ T s r e H = some (e', H')) : ∃ X, H' = H ++ X := by
 rcases gW h with ⟨h1, _⟩ | ⟨v, e1, h1, h2, h3⟩
 ·exact ⟨[], by rw [h1, List.append_nil]⟩
 ·cases hi : r.2.2 with
  | call f xs nw =>
    rw [hi] at h1 hc
    simp only [step, Option.bind_eq_some_iff] at h1
    obtain ⟨⟨vs, e2⟩, k1, h1⟩ := h1
    split at h1
    ·obtain ⟨⟨q, K⟩, k2, k3⟩ := Option.map_eq_some_iff.1 h1
     cases k3
     rw [show nw = 1 by simpa [aEx] using hc] at k2
     exact M2 (qE k2).2
    ·cases h1
  | _ => rw [hi] at hc; cases hc
theorem aH2 : ∀ {n : Nat} {H K : aC}, aDb n H K = true → H.length ≤ K.length ∧ ∀ i, i < H.length → i ≠ n → K[i]? = H[i]?
 | _, [], K, _ => ⟨Nat.zero_le _, fun i hi => by simp at hi⟩
 | 0, a :: r, b :: s, h => by
   obtain ⟨X, hX⟩ := M2 (show pre r s = true from h)
   refine ⟨by rw [hX]; simp, fun i hi hn => ?_⟩
   cases i with
   | zero => exact absurd rfl hn
   | succ i => rw [List.getElem?_cons_succ, List.getElem?_cons_succ, hX, List.getElem?_append_left (by simpa using hi)]
 | n + 1, a :: r, b :: s, h => by
   simp only [aDb, Bool.and_eq_true] at h
   obtain ⟨h1, h2⟩ := aH2 h.2
   refine ⟨by simpa using h1, fun i hi hn => ?_⟩
   cases i with
   | zero => rw [List.getElem?_cons_zero, List.getElem?_cons_zero, St.eqL_eq _ _ h.1]
   | succ i => rw [List.getElem?_cons_succ, List.getElem?_cons_succ]; exact h2 i (by simpa using hi) (by omega)
 | 0, _ :: _, [], h => by cases h
 | _ + 1, _ :: _, [], h => by cases h
theorem aJx {H K : aC} (h : pre H K = true) : H.length ≤ K.length ∧ ∀ i, i < H.length → K[i]? = H[i]? := by
 obtain ⟨X, rfl⟩ := M2 h
 exact ⟨by simp, fun i hi => List.getElem?_append_left hi⟩
theorem X8 {r : jL} {u : Nat} {e e' : aZ} {H H' : aC} (hc : l5 r.2.2 = some u) (h : kZ T s r e H = some (e', H')) : H.length ≤ H'.length ∧ ∀ i, i < H.length → (∀ j o, eget e u = some (.ptr j o) → i ≠ j) → H'[i]? = H[i]? := by
 rcases gW h with ⟨h1, _⟩ | ⟨v, e1, h1, h2, h3⟩
 ·rw [h1]; exact ⟨Nat.le_refl _, fun _ _ _ => rfl⟩
 ·cases hi : r.2.2 with
  | call f xs nw =>
    rw [hi] at h1 hc
    unfold l5 at hc
    split at hc
    ·rename_i f' u' xs' hh
     cases hc
     injection hh with _ hxs hnw
     subst hnw hxs
     simp only [step, Option.bind_eq_some_iff] at h1
     obtain ⟨⟨vs, e2⟩, k1, h1⟩ := h1
     split at h1
     ·obtain ⟨⟨q, K⟩, k2, k3⟩ := Option.map_eq_some_iff.1 h1
      cases k3
      have hk := (qE k2).2
      simp only [fT, gQ, Option.bind_eq_some_iff, Option.map_eq_some_iff] at k1
      obtain ⟨⟨w, e3⟩, ⟨v0, hv0, hw⟩, ⟨ws, e4⟩, _, hvs⟩ := k1
      cases hw
      cases hvs
      simp only at hk
      have hk : okN 2 (v0.dis :: ws) H K = true := hk
      by_cases hp : ∃ j o, v0 = .ptr j o
      ·obtain ⟨j, o, rfl⟩ := hp
       have hk : aDb j H K = true := hk
       obtain ⟨a1, a2⟩ := aH2 hk
       exact ⟨a1, fun i hi hn => a2 i hi (hn j o hv0)⟩
      ·have hk : pre H K = true := by
        cases hv : v0.dis with
        | ptr j o => exact absurd ⟨j, o, wQ hv⟩ hp
        | _ => rw [hv] at hk; exact hk
       obtain ⟨a1, a2⟩ := aJx hk
       exact ⟨a1, fun i hi _ => a2 i hi⟩
     ·cases h1
    ·cases hc
  | _ => rw [hi] at hc; cases hc
theorem aC7 : ∀ {n : Nat} {H K : aC}, sJ n H K = true → H.length ≤ K.length ∧ (n < H.length → K[n]? = H[n]?)
 | _, [], _, _ => ⟨Nat.zero_le _, fun h => by cases h⟩
 | 0, a :: r, b :: s, h => by
   simp only [sJ, Bool.and_eq_true, decide_eq_true_eq] at h
   exact ⟨by simpa using h.2, fun _ => by simp [St.eqL_eq _ _ h.1]⟩
 | n + 1, a :: r, b :: s, h => by
   obtain ⟨h1, h2⟩ := aC7 (n := n) (H := r) (K := s) h
   exact ⟨by simpa using h1, fun k => by simpa using h2 (by simpa using k)⟩
 | 0, _ :: _, [], h => by cases h
 | _ + 1, _ :: _, [], h => by cases h
theorem X9 {r : jL} {u : Nat} {e e' : aZ} {H H' : aC} (hc : l6 r.2.2 = some u) (h : kZ T s r e H = some (e', H')) : H.length ≤ H'.length ∧ ∀ i, i < H.length → ((∃ o, eget e u = some (.ptr i o)) ∨ ∃ c k, eget e u = some (.fp c k)) → H'[i]? = H[i]? := by
 rcases gW h with ⟨h1, _⟩ | ⟨v, e1, h1, h2, h3⟩
 ·rw [h1]; exact ⟨Nat.le_refl _, fun _ _ _ => rfl⟩
 ·cases hi : r.2.2 with
  | call f xs nw =>
    rw [hi] at h1 hc
    unfold l6 at hc
    split at hc
    ·rename_i f' u' xs' hh
     cases hc
     injection hh with _ hxs hnw
     subst hnw hxs
     simp only [step, Option.bind_eq_some_iff] at h1
     obtain ⟨⟨vs, e2⟩, k1, h1⟩ := h1
     split at h1
     ·obtain ⟨⟨q, K⟩, k2, k3⟩ := Option.map_eq_some_iff.1 h1
      cases k3
      have hk := (qE k2).2
      simp only [fT, gQ, Option.bind_eq_some_iff, Option.map_eq_some_iff] at k1
      obtain ⟨⟨w, e3⟩, ⟨v0, hv0, hw⟩, ⟨ws, e4⟩, _, hvs⟩ := k1
      cases hw
      cases hvs
      simp only at hk
      have hk : okN 3 (v0.dis :: ws) H K = true := hk
      by_cases hp : ∃ j o, v0 = .ptr j o
      ·obtain ⟨j, o, rfl⟩ := hp
       have hk : sJ j H K = true := hk
       obtain ⟨a1, a2⟩ := aC7 hk
       refine ⟨a1, fun i hi hn => ?_⟩
       rw [hv0] at hn
       rcases hn with ⟨_, hn⟩ | ⟨_, _, hn⟩ <;> cases hn
       exact a2 hi
      ·have hk : pre H K = true := by
        cases hv : v0.dis with
        | ptr j o => exact absurd ⟨j, o, wQ hv⟩ hp
        | _ => rw [hv] at hk; exact hk
       obtain ⟨a1, a2⟩ := aJx hk
       exact ⟨a1, fun i hi _ => a2 i hi⟩
     ·cases h1
    ·cases hc
  | _ => rw [hi] at hc; cases hc
theorem Y0 {i : I} {u : Nat} (h : l6 i = some u) : u ∈ iR i := by
 unfold l6 at h
 split at h
 ·cases h; simp [iR, xr]
 ·cases h
theorem V.rbL_map {n : Nat} {f : V → V} (hf : ∀ v : V, v.rb n = true → (f v).rb n = true) {vs : List V} (h : V.rbL n vs = true) : V.rbL n (vs.map f) = true := by
 rw [V.rbL_iff] at h ⊢
 intro v hv
 obtain ⟨u, hu, rfl⟩ := List.mem_map.1 hv
 exact hf u (h u hu)
theorem V.rb_dis2 {n : Nat} (v : V) (h : v.rb n = true) : v.dis2.rb n = true := by
 cases v <;> try exact h
 all_goals simp only [V.rb, V.dis2, Bool.and_eq_true] at h ⊢
 ·exact h.2
 ·exact V.rbL_map V.rb_dis1 h
theorem V.rb_dis {n : Nat} (v : V) (h : v.rb n = true) : v.dis.rb n = true := by
 cases v <;> try exact h
 all_goals simp only [V.rb, V.dis, Bool.and_eq_true] at h ⊢
 ·exact h.2
 ·exact V.rbL_map V.rb_dis1 h
 ·exact V.rbL_map V.rb_dis2 h
theorem aH3 {e' : aZ} : ∀ {xs : List X} {vs : List V} {e : aZ}, fT xs e = some (vs, e') → (∀ t ∈ xs.flatMap xr, ∀ v, eget e t = some v → v.rb 0 = true) → xs.all xk = true → V.rbL 0 vs = true
 | [], vs, e, h, _, _ => by
   obtain ⟨rfl, rfl⟩ : [] = vs ∧ e = e' := by simpa [fT] using h
   simp [V.rbL]
 | x :: xs, vs, e, h, hr, hk => by
   simp only [fT, Option.bind_eq_some_iff, Option.map_eq_some_iff] at h
   obtain ⟨⟨u, e1⟩, h1, ⟨us, e2⟩, h2, h3⟩ := h
   cases h3
   simp only [List.all_cons, Bool.and_eq_true] at hk
   simp only [V.rbL, Bool.and_eq_true]
   have a1 := (z9 x e u e1 h1).1
   refine ⟨?_, aH3 h2 (fun t ht v hv => ?_) hk.2⟩
   ·cases x with
    | t n =>
      obtain ⟨w, hw, e1⟩ := Option.map_eq_some_iff.1 (show (eget e n).map (fun x => (x.dis, e)) = some (u, e1) from h1)
      cases e1
      have := hr n (by simp [xr]) w hw
      exact V.rb_dis w this
    | m n =>
      obtain ⟨w, hw, e1⟩ := Option.map_eq_some_iff.1 (show (eget e n).map (fun x => (x, bW e n)) = some (u, e1) from h1)
      cases e1
      exact hr n (by simp [xr]) _ hw
    | k w =>
      obtain ⟨rfl, rfl⟩ : w = u ∧ e = e1 := by simpa [gQ] using h1
      have := hk.1
      simp only [xk, Bool.and_eq_true] at this
      exact this.2
   ·by_cases hw : t ∈ xw x
    ·cases x with
     | m n =>
       obtain ⟨w, hw2, e1⟩ := Option.map_eq_some_iff.1 (show (eget e n).map (fun x => (x, bW e n)) = some (u, e1) from h1)
       cases e1
       have : t = n := by simpa [xw] using hw
       subst this
       rw [jD, if_pos rfl] at hv
       cases hv
     | _ => simp [xw] at hw
    ·rw [a1 t hw] at hv
     exact hr t (by simp only [List.flatMap_cons, List.mem_append]; exact .inr ht) v hv
theorem aC8 (hT : OrcOK T pure) {r : jL} {e e' : aZ} {H H' : aC} (hc : jZ pure r.2.2 = .C) (hk : iK r.2.2 = true) (h : kZ T s r e H = some (e', H')) (hf : ∀ t ∈ yL r.2.2, ∀ v, eget e t = some v → v.rb 0 = true) :
 ∀ G, kZ T s r e G = some (e', G) := by
 rcases gW h with ⟨h1, _, h2, _⟩ | ⟨v, e1, h1, h2, h3⟩
 ·exact h2
 ·intro G
  refine h3 G G ?_
  obtain ⟨f, xs, nw, hi, hp⟩ := J4 hc
  rw [hi] at h1 hf hk ⊢
  simp only [step, Option.bind_eq_some_iff] at h1 ⊢
  obtain ⟨⟨vs, e2⟩, k1, h1⟩ := h1
  refine ⟨⟨vs, e2⟩, k1, ?_⟩
  split at h1
  ·rename_i hw
   obtain ⟨⟨q, K⟩, k2, k3⟩ := Option.map_eq_some_iff.1 h1
   cases k3
   rw [if_pos hw, L8 (hT.free _ _ _ _ _ _ (hT.pu f hp) (qE k2).1 (aH3 (e := e) k1 hf hk) G) (aFh _ _ G)]; rfl
  ·cases h1
theorem fX {i : I} {t n : Nat} (h : place i = some (t, n)) : t ∈ iR i := by
 unfold place at h
 split at h <;> cases h <;> simp [iR, xr]
theorem A6 {i : I} {t : Nat} (h : t ∈ yL i) : t ∈ iR i := by
 unfold yL at h
 split at h
 ·exact h
 ·cases h
theorem cS {r : jL} {t : Nat} (h : t ∈ iR r.2.2) : t ∈ nT r := List.mem_append_left _ h
theorem A7 {a b : List Nat} : G8 a b = true ↔ ∀ t ∈ a, t ∉ b := by
 simp [G8]
def LInv (L : List Nat) (e : aZ) : Prop := ∀ t v, t ∉ L → eget e t = some v → v.noVia = true
structure Facts (conf : List (Nat × Nat × Nat × Nat)) (free fps : List Nat) (a b : jL) (e : aZ) (H : aC) : Prop where
 fconf : ∀ t n u m, (t, n, u, m) ∈ conf → t ∈ nT a → u ∈ nT b → gC (eget e t) n (eget e u) m = true
 ffree : ∀ t ∈ free, (t ∈ nT a ∨ t ∈ nT b) → ∀ v, eget e t = some v → v.rb 0 = true
 ffps : ∀ t ∈ fps, (t ∈ nT a ∨ t ∈ nT b) → ∀ id o, eget e t ≠ some (.ptr id o)
 frb : ∀ t n, place b.2.2 = some (t, n) → t ∈ fps ∨ ∀ v, eget e t = some v → v.rb H.length = true
theorem c7 {e : aZ} {t n : Nat} {H G : aC} (h : ∀ id o, eget e t ≠ some (.ptr id o)) : S1 e t n H G := fun id o k => absurd k (h id o)
theorem Y1 {i : I} (h : aR7 fps i = true) : ∃ t n, place i = some (t, n) ∧ t ∈ fps := by
 unfold aR7 at h
 split at h
 ·rename_i t n hp; exact ⟨t, n, hp, by simpa using h⟩
 ·cases h
theorem Y2 {i : I} {u : Nat} (h : l5 i = some u) : u ∈ iR i := by
 unfold l5 at h
 split at h
 ·cases h; simp [iR, xr]
 ·cases h
theorem aL8 {i o n j p : Nat} (h : gC (some (.ptr i o)) n (some (.ptr j p)) far = true) : i ≠ j := by
 simpa [gC, far, near] using h
theorem aIa {i o n j p : Nat} (h : gC (some (.ptr j p)) far (some (.ptr i o)) n = true) : i ≠ j := fun e => by
 have : j ≠ i := by simpa [gC, far, near] using h
 exact this e.symm
theorem aIb {i o : Nat} {y : Option V} (h : gC (some (.ptr i o)) near y near = true) : (∃ p, y = some (.ptr i p)) ∨ ∃ c k, y = some (.fp c k) := by
 cases y with
 | none => cases h
 | some v => cases v <;> first | (simp [gC] at h; done) | (simp [gC] at h; subst h; exact .inl ⟨_, rfl⟩) | exact .inr ⟨_, _, rfl⟩
theorem aH4 {i o : Nat} {y : Option V} (h : gC y near (some (.ptr i o)) near = true) : (∃ p, y = some (.ptr i p)) ∨ ∃ c k, y = some (.fp c k) := by
 cases y with
 | none => cases h
 | some v => cases v <;> first | (simp [gC] at h; done) | (simp [gC] at h; subst h; exact .inl ⟨_, rfl⟩) | exact .inr ⟨_, _, rfl⟩
theorem aL9 (hT : OrcOK T pure) {a b : jL} {e e1 e2 : aZ} {H H1 H2 : aC} (h1 : kZ T s a e H = some (e1, H1)) (h2 : kZ T s b e1 H1 = some (e2, H2)) (hp : yM pure conf free fps a b = true)
 (ka : iK a.2.2 = true) (kb : iK b.2.2 = true) (hd : ∀ t ∈ nT b, eget e1 t = eget e t) (F : Facts conf free fps a b e H) :
 ∃ G1, kZ T s b e1 H = some (e2, G1) ∧ kZ T s a e G1 = some (e1, H2) := by
 have fpB : ∀ t ∈ fps, t ∈ nT b → ∀ id o, eget e1 t ≠ some (.ptr id o) := fun t ht hb id o k => F.ffps t ht (.inr hb) id o (by rw [← hd t hb]; exact k)
 have cS1 : jZ pure a.2.2 = .S → ∃ G1, kZ T s b e1 H = some (e2, G1) ∧ kZ T s a e G1 = some (e1, H2) := fun hc => by
  obtain ⟨k1, k2⟩ := aQp hc h1
  subst k1
  exact ⟨H2, h2, k2 H2⟩
 have cS2 : jZ pure b.2.2 = .S → ∃ G1, kZ T s b e1 H = some (e2, G1) ∧ kZ T s a e G1 = some (e1, H2) := fun hc => by
  obtain ⟨k1, k2⟩ := aQp hc h2
  subst k1
  exact ⟨H, k2 H, h1⟩
 unfold yM at hp
 split at hp
 ·exact cS1 (by assumption)
 ·exact cS2 (by assumption)
 ·
  have ca : jZ pure a.2.2 = .R := by assumption
  have cb : jZ pure b.2.2 = .U := by assumption
  simp only [Bool.and_eq_true, Bool.or_eq_true] at hp
  obtain ⟨k3, kX⟩ := zJ ca h1
  subst k3
  rcases hp.1 with ((q | q) | q) | q
  rotate_left
  ·obtain ⟨X, hX⟩ := aEd q h2
   exact ⟨H2, h2, by rw [hX]; exact kX X⟩
  rotate_left
  ·split at q
   ·rename_i t n u p1 p2
    simp only [Bool.and_eq_true, List.contains_iff_mem] at q
    have hub : u ∈ nT b := cS (Y0 p2)
    obtain ⟨a1, a2⟩ := X9 p2 h2
    refine ⟨H2, h2, uS ca p1 (kX (H2.drop H1.length)) fun id o hv => ?_⟩
    unfold cU
    congr 1
    by_cases hi : id < H1.length
    ·rw [List.getElem?_append_left hi]
     have := F.fconf _ _ _ _ q.2 (cS (fX p1)) hub
     rw [hv, ← hd u hub] at this
     rcases aIb this with ⟨p, hp⟩ | ⟨c, k, hp⟩
     ·exact a2 id hi (.inl ⟨p, hp⟩)
     ·exact a2 id hi (.inr ⟨c, k, hp⟩)
    ·rw [List.getElem?_append_right (by omega), List.getElem?_drop]; congr 1; omega
   ·cases q
  rotate_left
  ·split at q
   ·rename_i t n u p1 p2
    simp only [Bool.and_eq_true, List.contains_iff_mem] at q
    have hub : u ∈ nT b := cS (Y2 p2)
    obtain ⟨a1, a2⟩ := X8 p2 h2
    refine ⟨H2, h2, uS ca p1 (kX (H2.drop H1.length)) fun id o hv => ?_⟩
    unfold cU
    congr 1
    by_cases hi : id < H1.length
    ·rw [List.getElem?_append_left hi]
     refine a2 id hi fun j o' hj => ?_
     have := F.fconf _ _ _ _ q.2 (cS (fX p1)) hub
     rw [hv, ← hd u hub, hj] at this
     exact aL8 this
    ·rw [List.getElem?_append_right (by omega), List.getElem?_drop]; congr 1; omega
   ·cases q
  obtain ⟨t, n, k1, k2⟩ := Y1 q
  exact ⟨H2, h2, uS ca k1 h1 (c7 fun id o => F.ffps t k2 (.inl (cS (fX k1))) id o)⟩
 ·
  have ca : jZ pure a.2.2 = .U := by assumption
  have cb : jZ pure b.2.2 = .R := by assumption
  simp only [Bool.and_eq_true, Bool.or_eq_true] at hp
  obtain ⟨k3, _⟩ := zJ cb h2
  subst k3
  rcases hp.1 with ((q | ⟨q, q'⟩) | q) | q
  rotate_left
  rotate_left
  rotate_left
  ·split at q
   ·rename_i t n u p1 p2
    simp only [Bool.and_eq_true, List.contains_iff_mem] at q
    have hua : u ∈ nT a := cS (Y0 p2)
    have hm := cS (r := b) (fX p1)
    obtain ⟨a1, a2⟩ := X9 p2 h1
    refine ⟨H, uS cb p1 h2 fun id o hv => ?_, h1⟩
    rw [hd t hm] at hv
    have hi : id < H.length := by
     rcases F.frb t n p1 with k | k
     ·exact absurd hv (F.ffps t k (.inr hm) id o)
     ·simpa only [V.rb, decide_eq_true_eq] using k _ hv
    unfold cU
    congr 1
    have := F.fconf _ _ _ _ q.2 hua hm
    rw [hv] at this
    rcases aH4 this with ⟨p, hp⟩ | ⟨c, k, hp⟩
    ·exact (a2 id hi (.inl ⟨p, hp⟩)).symm
    ·exact (a2 id hi (.inr ⟨c, k, hp⟩)).symm
   ·cases q
  rotate_left
  rotate_left
  ·split at q
   ·rename_i t n u p1 p2
    simp only [Bool.and_eq_true, List.contains_iff_mem] at q
    have hua : u ∈ nT a := cS (Y2 p2)
    have hm := cS (r := b) (fX p1)
    obtain ⟨a1, a2⟩ := X8 p2 h1
    refine ⟨H, uS cb p1 h2 fun id o hv => ?_, h1⟩
    rw [hd t hm] at hv
    have hi : id < H.length := by
     rcases F.frb t n p1 with k | k
     ·exact absurd hv (F.ffps t k (.inr hm) id o)
     ·simpa only [V.rb, decide_eq_true_eq] using k _ hv
    unfold cU
    congr 1
    refine (a2 id hi fun j o' hj => ?_).symm
    have := F.fconf _ _ _ _ q.2 hua hm
    rw [hv, hj] at this
    exact aIa this
   ·cases q
  rotate_left
  ·obtain ⟨⟨t, n⟩, k1⟩ := Option.isSome_iff_exists.1 q'
   obtain ⟨X, hX⟩ := aEd q h1
   refine ⟨H, uS cb k1 h2 ?_, h1⟩
   have hm := cS (fX k1)
   rcases F.frb t n k1 with k | k
   ·exact c7 (fpB t k hm)
   ·intro id o hv
    rw [hd t hm] at hv
    have := k _ hv
    simp only [V.rb, decide_eq_true_eq] at this
    rw [hX]
    unfold cU
    rw [List.getElem?_append_left this]
  obtain ⟨t, n, k1, k2⟩ := Y1 q
  exact ⟨H, uS cb k1 h2 (c7 (fpB t k2 (cS (fX k1)))), h1⟩
 ·
  have ca : jZ pure a.2.2 = .A := by assumption
  have cb : jZ pure b.2.2 = .R := by assumption
  obtain ⟨⟨t, n⟩, k1⟩ := Option.isSome_iff_exists.1 hp
  obtain ⟨k3, _⟩ := zJ cb h2
  subst k3
  obtain ⟨X, hX⟩ := aQq ca h1
  refine ⟨H, uS cb k1 h2 ?_, h1⟩
  have hm := cS (fX k1)
  rcases F.frb t n k1 with k | k
  ·exact c7 (fpB t k hm)
  ·intro id o hv
   rw [hd t hm] at hv
   have := k _ hv
   simp only [V.rb, decide_eq_true_eq] at this
   rw [hX]
   unfold cU
   rw [List.getElem?_append_left this]
 ·
  have ca : jZ pure a.2.2 = .R := by assumption
  have cb : jZ pure b.2.2 = .R := by assumption
  have k1 := (zJ ca h1).1; subst k1
  have k2 := (zJ cb h2).1; subst k2
  exact ⟨_, h2, h1⟩
 ·
  have ca : jZ pure a.2.2 = .R := by assumption
  have cb : jZ pure b.2.2 = .A := by assumption
  obtain ⟨k1, k2⟩ := zJ ca h1
  subst k1
  obtain ⟨X, hX⟩ := aQq cb h2
  exact ⟨H2, h2, by rw [hX]; exact k2 X⟩
 ·
  have ca : jZ pure a.2.2 = .R := by assumption
  have cb : jZ pure b.2.2 = .C := by assumption
  have k1 := (zJ ca h1).1; subst k1
  have k2 := X7 hT cb h2; subst k2
  exact ⟨_, h2, h1⟩
 ·
  have ca : jZ pure a.2.2 = .C := by assumption
  have cb : jZ pure b.2.2 = .R := by assumption
  have k1 := X7 hT ca h1; subst k1
  have k2 := (zJ cb h2).1; subst k2
  exact ⟨_, h2, h1⟩
 ·
  have ca : jZ pure a.2.2 = .C := by assumption
  have cb : jZ pure b.2.2 = .C := by assumption
  have k1 := X7 hT ca h1; subst k1
  have k2 := X7 hT cb h2; subst k2
  exact ⟨_, h2, h1⟩
 ·
  have ca : jZ pure a.2.2 = .C := by assumption
  have cb : jZ pure b.2.2 = .A := by assumption
  simp only [Bool.and_eq_true, List.all_eq_true, List.contains_iff_mem] at hp
  have k1 := X7 hT ca h1; subst k1
  exact ⟨H2, h2, aC8 hT ca ka h1 (fun t ht v hv => F.ffree t (hp.2 t ht) (.inl (cS (A6 ht))) v hv) H2⟩
 ·
  have ca : jZ pure a.2.2 = .A := by assumption
  have cb : jZ pure b.2.2 = .C := by assumption
  simp only [Bool.and_eq_true, List.all_eq_true, List.contains_iff_mem] at hp
  have k1 := X7 hT cb h2; subst k1
  refine ⟨H, aC8 hT cb kb h2 (fun t ht v hv => ?_) H, h1⟩
  have hm := cS (A6 ht)
  rw [hd t hm] at hv
  exact F.ffree t (hp.2 t ht) (.inr hm) v hv
 ·
  have ca : jZ pure a.2.2 = .R := by assumption
  have cb : jZ pure b.2.2 = .W := by assumption
  simp only [Bool.and_eq_true] at hp
  obtain ⟨_, hp⟩ := hp
  split at hp
  ·rename_i t n u m p1 p2
   simp only [List.contains_iff_mem, Bool.and_eq_true, bne_iff_ne] at hp
   have hb := cS (r := b) (fX p2)
   obtain ⟨k1, _⟩ := zJ ca h1; subst k1
   refine ⟨H2, h2, uS ca p1 h1 (aTy cb p2 h2 (fun k => hp.1 k.2) (.inr ?_))⟩
   rw [hd u hb]
   exact F.fconf _ _ _ _ hp.2 (cS (fX p1)) hb
  ·cases hp
 ·
  have ca : jZ pure a.2.2 = .W := by assumption
  have cb : jZ pure b.2.2 = .R := by assumption
  simp only [Bool.and_eq_true] at hp
  obtain ⟨_, hp⟩ := hp
  split at hp
  ·rename_i t n u m p1 p2
   simp only [List.contains_iff_mem, Bool.and_eq_true, bne_iff_ne] at hp
   have hb := cS (r := b) (fX p2)
   obtain ⟨k1, _⟩ := zJ cb h2; subst k1
   refine ⟨H, uS cb p2 h2 ?_, h1⟩
   have := aTy (f := e1) ca p1 h1 (fun k => hp.1 k.1) (.inl (by rw [hd u hb]; exact F.fconf _ _ _ _ hp.2 (cS (fX p1)) hb))
   exact fun id o k => (this id o k).symm
  ·cases hp
 ·cases hp
end
end Go.Abs
namespace Go.Abs
section
variable {T : Orc} {pure : FuncId → Bool} {s : Option Nat} {L free fps : List Nat} {conf : List (Nat × Nat × Nat × Nat)}
theorem uC {x : X} {e e' : aZ} {v : V} (h : gQ x e = some (v, e')) : ∀ t u, eget e' t = some u → eget e t = some u := by
 cases x with
 | t n => obtain ⟨w, _, e1⟩ := Option.map_eq_some_iff.1 (show (eget e n).map (fun x => (x.dis, e)) = some (v, e') from h); cases e1; exact fun _ _ k => k
 | m n =>
   obtain ⟨w, _, e1⟩ := Option.map_eq_some_iff.1 (show (eget e n).map (fun x => (x, bW e n)) = some (v, e') from h); cases e1
   intro t u k
   rw [jD] at k
   split at k
   ·cases k
   ·exact k
 | k w => obtain ⟨rfl, rfl⟩ : w = v ∧ e = e' := by simpa [gQ] using h
          exact fun _ _ k => k
theorem A5 : ∀ {xs : List X} {e e' : aZ} {vs : List V}, fT xs e = some (vs, e') → ∀ t u, eget e' t = some u → eget e t = some u
 | [], e, e', vs, h => by
   obtain ⟨rfl, rfl⟩ : [] = vs ∧ e = e' := by simpa [fT] using h
   exact fun _ _ k => k
 | x :: xs, e, e', vs, h => by
   simp only [fT, Option.bind_eq_some_iff, Option.map_eq_some_iff] at h
   obtain ⟨⟨u, e1⟩, h1, ⟨us, e2⟩, h2, h3⟩ := h
   cases h3
   exact fun t v k => uC h1 t v (A5 h2 t v k)
theorem LInv.sub {e e' : aZ} (h : LInv L e) (k : ∀ t u, eget e' t = some u → eget e t = some u) : LInv L e' := fun t v ht hv => h t v ht (k t v hv)
theorem LInv.put {e : aZ} (h : LInv L e) {d : Option Nat} {v : V} (hv : v.noVia = true ∨ ∀ t, d = some t → t ∈ L) : LInv L (oJ e d v) := by
 intro t u ht hu
 rw [rX] at hu
 split at hu
 ·rename_i hd
  cases hu
  exact hv.resolve_right fun k => ht (k t hd)
 ·exact h t u ht hu
theorem aL5 {i : I} {e e' : aZ} {H H' : aC} {v : V} (hL : LInv L e) (h : step T s i e H = some (v, e', H')) : LInv L e' := by
 cases i with
 | mv x =>
   obtain ⟨p, h1, h2⟩ := Option.map_eq_some_iff.1 (show (gQ x e).map (fun r => (r.1, r.2, H)) = some (v, e', H') from h)
   cases h2
   exact hL.sub (uC h1)
 | op o xs => obtain ⟨vs, h1, _⟩ := E2 h; exact hL.sub (A5 h1)
 | pick c x y =>
   simp only [step, Option.bind_eq_some_iff] at h
   obtain ⟨⟨u, e1⟩, h1, h⟩ := h
   cases u <;> try cases h
   obtain ⟨p, h2, h3⟩ := Option.map_eq_some_iff.1 h
   cases h3
   exact (hL.sub (uC h1)).sub (uC h2)
 | exm j t =>
   simp only [step] at h
   split at h
   ·rename_i vs hg
    obtain ⟨u, hu, e1⟩ := Option.map_eq_some_iff.1 h
    cases e1
    exact hL.put (d := some t) (.inl rfl)
   ·cases h
 | call f xs nw =>
   simp only [step, Option.bind_eq_some_iff] at h
   obtain ⟨⟨vs, e1⟩, h1, h⟩ := h
   split at h
   ·obtain ⟨q, _, h3⟩ := Option.map_eq_some_iff.1 h
    cases h3
    exact hL.sub (A5 h1)
   ·cases h
 | cav x xs =>
   simp only [step, Option.bind_eq_some_iff] at h
   obtain ⟨⟨u, e0⟩, h0, h⟩ := h
   cases u <;> try cases h
   simp only [Option.bind_eq_some_iff] at h
   obtain ⟨⟨vs, e1⟩, h1, h⟩ := h
   split at h
   ·obtain ⟨q, _, h3⟩ := Option.map_eq_some_iff.1 h
    cases h3
    exact (hL.sub (uC h0)).sub (A5 h1)
   ·cases h
 | cam tbl x xs =>
   simp only [step, Option.bind_eq_some_iff] at h
   obtain ⟨⟨u, e0⟩, h0, h⟩ := h
   cases u <;> try cases h
   simp only at h
   split at h
   ·simp only [Option.bind_eq_some_iff] at h
    obtain ⟨⟨vs, e1⟩, h1, h⟩ := h
    split at h
    ·obtain ⟨q, _, h3⟩ := Option.map_eq_some_iff.1 h
     cases h3
     exact (hL.sub (uC h0)).sub (A5 h1)
    ·cases h
   ·cases h
theorem D8 {x : X} {e e' : aZ} {v : V} (hL : LInv L e) (hd : ∀ t ∈ xr x, t ∉ L) (hk : xk x = true) (h : gQ x e = some (v, e')) : v.noVia = true := by
 cases x with
 | t n => obtain ⟨w, _, e1⟩ := Option.map_eq_some_iff.1 (show (eget e n).map (fun x => (x.dis, e)) = some (v, e') from h); cases e1; exact V.dis_noVia w
 | m n =>
   obtain ⟨w, hw, e1⟩ := Option.map_eq_some_iff.1 (show (eget e n).map (fun x => (x, bW e n)) = some (v, e') from h); cases e1
   exact hL n _ (hd n (by simp [xr])) hw
 | k w =>
   obtain ⟨rfl, rfl⟩ : w = v ∧ e = e' := by simpa [gQ] using h
   simp only [xk, Bool.and_eq_true] at hk
   exact hk.1
theorem aC5 : ∀ {xs : List X} {e e' : aZ} {vs : List V}, LInv L e → (∀ t ∈ xs.flatMap xr, t ∉ L) → xs.all xk = true → fT xs e = some (vs, e') → ∀ v ∈ vs, v.noVia = true
 | [], e, e', vs, _, _, _, h => by
   obtain ⟨rfl, rfl⟩ : [] = vs ∧ e = e' := by simpa [fT] using h
   simp
 | x :: xs, e, e', vs, hL, hd, hk, h => by
   simp only [fT, Option.bind_eq_some_iff, Option.map_eq_some_iff] at h
   obtain ⟨⟨u, e1⟩, h1, ⟨us, e2⟩, h2, h3⟩ := h
   cases h3
   simp only [List.all_cons, Bool.and_eq_true] at hk
   simp only [List.flatMap_cons, List.mem_append] at hd
   intro v hv
   rcases List.mem_cons.1 hv with rfl | hv
   ·exact D8 hL (fun t ht => hd t (.inl ht)) hk.1 h1
   ·exact aC5 (hL.sub (uC h1)) (fun t ht => hd t (.inr ht)) hk.2 h2 v hv
theorem xF {x : Option V} {r : V} (h : x.bind V.ntup = some r) : r.noVia = true := by
 obtain ⟨u, hu, h⟩ := Option.bind_eq_some_iff.1 h
 cases u <;> first | (cases h; rfl) | cases h
theorem X4 {op : BinOp} {k : IntKind} {a b : Int} {r : V} (h : bits op k a b = some r) : r.noVia = true := by
 unfold bits at h
 cases op <;> simp only at h <;> cases h <;> rfl
theorem D9 {op : BinOp} {k : IntKind} {a b : Int} {r : V} (h : iop op k a b = some r) : r.noVia = true := by
 unfold iop at h
 cases op <;> simp only at h <;> first | exact X4 h | (cases h; rfl) | (split at h <;> cases h; rfl)
theorem aL6 {op : BinOp} {x y r : V} (h : bin op x y = some r) : r.noVia = true := by
 unfold bin at h
 split at h
 ·cases op <;> simp only at h <;> first | exact D9 h | (split at h; exact D9 h; cases h)
 ·cases op <;> simp only at h <;> first | (cases h; done) | (cases h; rfl) | (split at h <;> cases h; rfl)
 ·cases h
theorem aQo {op : UnOp} {x r : V} (h : un op x = some r) : r.noVia = true := by
 unfold un at h
 split at h <;> first | (cases h; rfl) | exact D9 h | exact X4 h | cases h
theorem E1 {le : Int → Int → Bool} : ∀ {vs : List V} {v r : V}, v.noVia = true → mxn le v vs = some r → r.noVia = true
 | [], v, r, hv, h => by simp only [mxn] at h; cases h; exact hv
 | u :: vs, v, r, hv, h => by
   cases v <;> cases u <;> simp only [mxn] at h <;> first | (cases h; done) | exact E1 (v := .int _ _) rfl h
theorem sQ {sz bytes : Nat} {s x r : V} {H : aC} (h : eX sz bytes s x H = some r) : r.noVia = true := by
 unfold eX at h
 split at h
 ·split at h
  ·obtain ⟨q, _, h2⟩ := Option.bind_eq_some_iff.1 h
   split at h2
   ·cases h2; rfl
   ·cases h2
  ·cases h
 ·cases h
theorem J3 {o : O} {vs : List V} {H H' : aC} {r : V} (hv : (o = .mx ∨ o = .mn) → ∀ v ∈ vs, v.noVia = true) (hl : o ≠ .lv) (hk : (match o with | .kst v => v.noVia | .tas _ _ z => z.noVia | _ => true) = true)
 (h : apply s o vs H = some (r, H')) : r.noVia = true := by
 cases o <;> simp only [apply] at h
 case lv => exact absurd rfl hl
 case kst v => cases h; exact hk
 case bin => have h := (eA (α := V) h).1; unfold aVd at h; split at h; exact aL6 h; cases h
 case beq => have h := (eA (α := V) h).1; unfold aNh at h; split at h <;> cases h; rfl
 case peq => have h := (eA (α := V) h).1; unfold aNi at h; split at h; (obtain ⟨_, _, e⟩ := Option.map_eq_some_iff.1 h; cases e; rfl); cases h
 case ieq => have h := (eA (α := V) h).1; unfold aNj at h; split at h; (obtain ⟨_, _, e⟩ := Option.map_eq_some_iff.1 h; cases e; rfl); cases h
 case un => have h := (eA (α := V) h).1; unfold aUn at h; split at h; exact aQo h; cases h
 case fa => have h := (eA (α := V) h).1; unfold aFa at h; split at h <;> cases h <;> rfl
 case ix => have h := (eA (α := V) h).1; unfold aIx at h; split at h <;> first | (split at h <;> cases h; rfl) | cases h
 case ixa => have h := (eA (α := V) h).1; unfold Q2 at h; split at h <;> first | (split at h <;> cases h; rfl) | cases h
 case ld => have h := (eA (α := V) h).1; unfold aLd at h; split at h <;> first | (obtain ⟨u, _, e⟩ := Option.map_eq_some_iff.1 h; cases e; exact V.dis1_noVia u) | cases h
 case ldn => have h := (eA (α := V) h).1; unfold J7 at h; split at h <;> first | (obtain ⟨u, _, e⟩ := Option.map_eq_some_iff.1 h; cases e; rfl) | (split at h <;> cases h; rfl) | cases h
 case st => unfold aSt at h; split at h <;> first | (split at h <;> cases h; rfl) | cases h
 case stn => unfold aFd at h; split at h <;> first | (split at h <;> cases h; rfl) | cases h
 case nc => have h := (eA (α := V) h).1; unfold aNc at h; split at h <;> cases h <;> rfl
 case box => unfold aKe at h; split at h <;> first | (split at h <;> cases h; rfl) | cases h
 case bfp => have h := (eA (α := V) h).1; unfold aHj at h; split at h <;> first | (split at h <;> cases h; rfl) | cases h
 case alc => split at h <;> cases h; rfl
 case bld => obtain ⟨_, _, e⟩ := Option.map_eq_some_iff.1 h; cases e; rfl
 case bsl => split at h; (obtain ⟨_, _, e⟩ := Option.map_eq_some_iff.1 h; cases e; rfl); cases h
 case fld =>
  have h := (eA (α := V) h).1; unfold aHk at h
  split at h
  ·split at h
   ·exact xF h
   ·split at h <;> cases h; rfl
  ·cases h
 case ixs => have h := (eA (α := V) h).1; unfold aHl at h; split at h <;> first | (split at h; (obtain ⟨_, _, e⟩ := Option.map_eq_some_iff.1 h; cases e; rfl); cases h) | cases h
 case ixv =>
  have h := (eA (α := V) h).1; unfold aHm at h
  split at h
  ·split at h
   ·split at h
    ·exact xF h
    ·split at h <;> cases h; rfl
   ·cases h
  ·cases h
 case slc =>
  have h := (eA (α := V) h).1; unfold aHn at h
  split at h
  ·obtain ⟨⟨l, hh⟩, _, h⟩ := Option.bind_eq_some_iff.1 h
   simp only at h
   split at h <;> cases h; rfl
  ·obtain ⟨⟨l, hh⟩, _, h⟩ := Option.bind_eq_some_iff.1 h
   simp only at h
   split at h
   ·split at h <;> cases h <;> rfl
   ·cases h
  ·cases h
 case sls => have h := (eA (α := V) h).1; unfold aKf at h; split at h <;> first | (obtain ⟨_, _, e⟩ := Option.map_eq_some_iff.1 h; cases e; rfl) | cases h
 case app => have h := (eA (α := V) h).1; unfold aRo at h; split at h; exact sQ h; cases h
 case apv =>
  unfold aKg at h
  split at h
  ·split at h
   ·split at h
    ·obtain ⟨y, _, h⟩ := Option.bind_eq_some_iff.1 h
     obtain ⟨z, hz, e⟩ := Option.map_eq_some_iff.1 h
     cases e
     exact sQ hz
    ·cases h
   ·obtain ⟨z, hz, e⟩ := Option.map_eq_some_iff.1 h
    cases e
    exact sQ hz
  ·cases h
 case apg =>
  unfold Q4 at h
  split at h
  ·obtain ⟨q, _, h⟩ := Option.bind_eq_some_iff.1 h
   split at h
   ·split at h <;> cases h <;> rfl
   ·cases h
  ·split at h
   ·obtain ⟨cs, _, h⟩ := Option.bind_eq_some_iff.1 h
    obtain ⟨q, _, h⟩ := Option.bind_eq_some_iff.1 h
    split at h
    ·split at h <;> cases h; rfl
    ·split at h <;> cases h; rfl
   ·cases h
  ·cases h
 case clr =>
  unfold aFe at h
  split at h
  ·split at h
   ·obtain ⟨cs, _, h⟩ := Option.bind_eq_some_iff.1 h
    split at h <;> cases h; rfl
   ·cases h
  ·cases h; rfl
  ·cases h; rfl
  ·cases h
 case cpy =>
  unfold aNl at h
  split at h
  ·split at h
   ·obtain ⟨cs, _, h⟩ := Option.bind_eq_some_iff.1 h
    obtain ⟨q, _, h⟩ := Option.bind_eq_some_iff.1 h
    split at h <;> cases h; rfl
   ·cases h
  ·cases h
 case ife => have h := (eA (α := V) h).1; unfold aNm at h; split at h; (obtain ⟨_, _, e⟩ := Option.map_eq_some_iff.1 h; cases e; rfl); cases h
 case tyo => have h := (eA (α := V) h).1; unfold aRm at h; split at h <;> first | (split at h <;> cases h; rfl) | cases h
 case cmb => have h := (eA (α := V) h).1; unfold aRn at h; split at h <;> first | (split at h <;> cases h; rfl) | cases h
 case sl3 =>
  have h := (eA (α := V) h).1; unfold aDa at h
  split at h
  ·split at h
   ·split at h <;> cases h <;> rfl
   ·cases h
  ·cases h
 case len => have h := (eA (α := V) h).1; unfold aHo at h; split at h <;> cases h <;> rfl
 case mx =>
  have h := (eA (α := V) h).1; unfold aMx at h
  split at h
  ·exact E1 (hv (.inl rfl) _ (List.mem_cons_self ..)) h
  ·cases h
 case mn =>
  have h := (eA (α := V) h).1; unfold aMn at h
  split at h
  ·exact E1 (hv (.inr rfl) _ (List.mem_cons_self ..)) h
  ·cases h
 case cvi => have h := (eA (α := V) h).1; unfold aNn at h; split at h <;> cases h; rfl
 case cvs => have h := (eA (α := V) h).1; unfold aNo at h; split at h <;> cases h; rfl
 case b2s => have h := (eA (α := V) h).1; unfold aHp at h; split at h <;> first | (split at h; (obtain ⟨_, _, e⟩ := Option.map_eq_some_iff.1 h; cases e; rfl); cases h) | cases h
 case s2b => have h := (eA (α := V) h).1; unfold aNp at h; split at h <;> cases h; rfl
 case mif => have h := (eA (α := V) h).1; unfold aNq at h; split at h <;> first | (split at h <;> cases h; rfl) | cases h
 case tas t ok z =>
  have h := (eA (α := V) h).1; unfold aHq at h
  split at h
  ·split at h
   ·cases h
    split
    ·rfl
    ·exact V.dis_noVia _
   ·split at h <;> cases h; rfl
  ·split at h <;> cases h; rfl
  ·cases h
 case tai =>
  have h := (eA (α := V) h).1; unfold aHr at h
  split at h
  ·split at h
   ·cases h
    split <;> rfl
   ·split at h <;> cases h; rfl
  ·split at h <;> cases h; rfl
  ·cases h
 case ext => have h := (eA (α := V) h).1; unfold aHs at h; split at h; exact xF h; cases h
 case mkf => split at h <;> cases h; rfl
 case mks => unfold aHt at h; split at h <;> first | (split at h <;> cases h; rfl) | cases h
 case pan => cases h
theorem aH0 {i : I} : l7 i = true ↔ ∃ xs, i = .op .lv xs := by
 unfold l7
 split
 ·exact ⟨fun _ => ⟨_, rfl⟩, fun _ => rfl⟩
 ·rename_i h
  exact ⟨fun k => (by cases k), fun ⟨xs, k⟩ => absurd k (h xs)⟩
theorem X5 {r : jL} (hc : mM L r = true) (h1 : l7 r.2.2 = false) (h2 : ∀ a b xs, r.2.2 ≠ .op (.apv a b) xs) : iK r.2.2 = true ∧ (∀ t ∈ nT r, t ∉ L) ∧ ∀ t, r.1 = some t → t ∉ L := by
 unfold mM at hc
 simp only [Bool.and_eq_true] at hc
 obtain ⟨⟨c1, c2⟩, c3⟩ := hc
 have n1 : ∀ xs, r.2.2 ≠ .op .lv xs := fun xs k => by rw [k] at h1; cases h1
 refine ⟨c1, ?_, ?_⟩
 ·split at c2
  ·rename_i xs k; exact absurd k (n1 xs)
  ·rename_i a b xs k; exact absurd k (h2 a b xs)
  ·rw [A7] at c2
   exact fun t ht k => c2 t k ht
 ·split at c3
  ·rename_i xs k; exact absurd k (n1 xs)
  ·rw [A7] at c3
   exact fun t ht k => c3 t k (by simp [ht])
theorem aI7 (hT : OrcOK T pure) {r : jL} {e e' : aZ} {H H' : aC} {v : V} (hL : LInv L e) (hc : mM L r = true) (hl : l7 r.2.2 = false) (h : step T s r.2.2 e H = some (v, e', H')) : v.noVia = true := by
 obtain ⟨d, g, i⟩ := r
 simp only at hl h
 by_cases h2 : ∃ a b xs, i = .op (.apv a b) xs
 ·obtain ⟨a, b, xs, rfl⟩ := h2
  obtain ⟨vs, k1, k2, _⟩ := E2 h
  exact J3 (fun k => by rcases k with k | k <;> cases k) (fun k => by cases k) rfl k2
 ·obtain ⟨c1, c2, c3⟩ := X5 hc hl fun a b xs k => h2 ⟨a, b, xs, k⟩
  have c2' : ∀ t ∈ iR i, t ∉ L := fun t ht => c2 t (List.mem_append_left _ ht)
  cases i with
  | mv x =>
    obtain ⟨p, h1, h2⟩ := Option.map_eq_some_iff.1 (show (gQ x e).map (fun r => (r.1, r.2, H)) = some (v, e', H') from h)
    cases h2
    exact D8 hL c2' c1 h1
  | op o xs =>
    obtain ⟨vs, k1, k2, _⟩ := E2 h
    simp only [iK, Bool.and_eq_true] at c1
    refine J3 (fun _ => aC5 hL c2' c1.1 k1) (fun k => ?_) ?_ k2
    ·subst k; cases hl
    ·have := c1.2; cases o <;> first | rfl | exact this
  | pick c x y =>
    simp only [step, Option.bind_eq_some_iff] at h
    obtain ⟨⟨u, e1⟩, h1, h⟩ := h
    cases u <;> try cases h
    rename_i b
    obtain ⟨p, h2, h3⟩ := Option.map_eq_some_iff.1 h
    cases h3
    simp only [iK, Bool.and_eq_true] at c1
    refine D8 (hL.sub (uC h1)) (fun t ht => c2' t ?_) ?_ h2
    ·simp only [iR, List.mem_append]
     cases b
     ·exact .inr ht
     ·exact .inl (.inr ht)
    ·cases b
     ·exact c1.2
     ·exact c1.1.2
  | exm j t =>
    simp only [step] at h
    split at h
    ·rename_i vs hg
     obtain ⟨u, hu, e1⟩ := Option.map_eq_some_iff.1 h
     cases e1
     exact xF hu
    ·cases h
  | call f xs nw =>
    simp only [step, Option.bind_eq_some_iff] at h
    obtain ⟨⟨vs, e1⟩, h1, h⟩ := h
    split at h
    ·obtain ⟨⟨q, K⟩, k2, h3⟩ := Option.map_eq_some_iff.1 h
     cases h3
     exact hT.noVia _ _ _ _ _ _ (qE k2).1
    ·cases h
  | cav x xs =>
    simp only [step, Option.bind_eq_some_iff] at h
    obtain ⟨⟨u, e0⟩, h0, h⟩ := h
    cases u <;> try cases h
    simp only [Option.bind_eq_some_iff] at h
    obtain ⟨⟨vs, e1⟩, h1, h⟩ := h
    split at h
    ·obtain ⟨⟨q, K⟩, k2, h3⟩ := Option.map_eq_some_iff.1 h
     cases h3
     exact hT.noVia _ _ _ _ _ _ k2
    ·cases h
  | cam tbl x xs =>
    simp only [step, Option.bind_eq_some_iff] at h
    obtain ⟨⟨u, e0⟩, h0, h⟩ := h
    cases u <;> try cases h
    simp only at h
    split at h
    ·simp only [Option.bind_eq_some_iff] at h
     obtain ⟨⟨vs, e1⟩, h1, h⟩ := h
     split at h
     ·obtain ⟨⟨q, K⟩, k2, h3⟩ := Option.map_eq_some_iff.1 h
      cases h3
      exact hT.noVia _ _ _ _ _ _ k2
     ·cases h
    ·cases h
def lvIn (L : List Nat) (r : jL) : Prop := l7 r.2.2 = true → ∀ t, r.1 = some t → t ∈ L
theorem X6 (hT : OrcOK T pure) {r : jL} {e e' : aZ} {H H' : aC} (hL : LInv L e) (hc : mM L r = true) (hl : lvIn L r) (h : kZ T s r e H = some (e', H')) : LInv L e' := by
 rcases gW h with ⟨_, _, _, k⟩ | ⟨v, e1, k1, k2, _⟩
 ·subst k
  exact hL.put (.inl rfl)
 ·subst k2
  refine (aL5 hL k1).put ?_
  cases hv : l7 r.2.2 with
  | true => exact .inr (hl hv)
  | false => exact .inl (aI7 hT hL hc hv k1)
theorem aJu (hT : OrcOK T pure) {i : I} (h : chk T i = true) : jZ pure i = .W ∨ jZ pure i = .U := by
 cases i with
 | op o xs => rw [uM]; cases o <;> first | (cases h; done) | exact .inl rfl | exact .inr rfl
 | call f xs nw =>
   simp only [chk, Bool.not_eq_true'] at h
   simp only [jZ]
   cases hp : pure f with
   | true => rw [hT.pu f hp] at h; cases h
   | false => exact .inr rfl
 | cav x xs => exact .inr rfl
 | cam t x xs => exact .inr rfl
 | _ => cases h
theorem aJv {i : I} (h : jZ pure i = .S ∨ jZ pure i = .R) : ∀ a b xs, i ≠ .op (.apv a b) xs := by
 rintro a b xs rfl
 rcases h with h | h <;> cases h
theorem aH1 {i : I} (h : jZ pure i = .S) : l7 i = false := by
 cases hv : l7 i with
 | false => rfl
 | true => obtain ⟨xs, rfl⟩ := aH0.1 hv; cases h
theorem aI8 {a b : jL} (hp : yM pure conf free fps a b = true) (hb : jZ pure b.2.2 = .W ∨ jZ pure b.2.2 = .U) : (jZ pure a.2.2 = .S ∨ jZ pure a.2.2 = .R) ∧ l7 a.2.2 = false := by
 unfold yM at hp
 cases ha : jZ pure a.2.2 with
 | S => exact ⟨.inl rfl, aH1 ha⟩
 | R =>
   refine ⟨.inr rfl, ?_⟩
   rcases hb with hb | hb <;> rw [ha, hb] at hp <;> simp only [Bool.and_eq_true, Bool.not_eq_true'] at hp
   ·exact hp.1.1.2
   ·exact hp.2
 | _ => rcases hb with hb | hb <;> rw [ha, hb] at hp <;> cases hp
theorem aI9 {a b : jL} (hp : yM pure conf free fps a b = true) (hb : jZ pure a.2.2 = .W ∨ jZ pure a.2.2 = .U) : (jZ pure b.2.2 = .S ∨ jZ pure b.2.2 = .R) ∧ l7 b.2.2 = false := by
 unfold yM at hp
 cases ha : jZ pure b.2.2 with
 | S => exact ⟨.inl rfl, aH1 ha⟩
 | R =>
   refine ⟨.inr rfl, ?_⟩
   rcases hb with hb | hb <;> rw [ha, hb] at hp <;> simp only [Bool.and_eq_true, Bool.not_eq_true'] at hp
   ·exact hp.1.2
   ·exact hp.2
 | _ => rcases hb with hb | hb <;> rw [ha, hb] at hp <;> cases hp
theorem aC6 {r : jL} (hc : mM L r = true) (h1 : l7 r.2.2 = false) (h2 : ∀ a b xs, r.2.2 ≠ .op (.apv a b) xs) : ∀ t ∈ mU r, t ∉ L := by
 obtain ⟨_, c2, c3⟩ := X5 hc h1 h2
 intro t ht
 simp only [mU, List.mem_append, Option.mem_toList] at ht
 rcases ht with ht | ht
 ·exact c2 t (List.mem_append_left _ (aI6 _ t ht))
 ·exact c3 t ht
theorem swap (hT : OrcOK T pure) {a b : jL} {e e1 e2 : aZ} {H H1 H2 : aC} (h1 : kZ T s a e H = some (e1, H1)) (h2 : kZ T s b e1 H1 = some (e2, H2)) (hi : yN pure conf free fps a b = true)
 (ca : mM L a = true) (cb : mM L b = true) (la : lvIn L a) (lb : lvIn L b) (hn : (dN e).Nodup) (hL : LInv L e) (F : Facts conf free fps a b e H) :
 ∃ f1 G1 f2, kZ T s b e H = some (f1, G1) ∧ kZ T s a f1 G1 = some (f2, H2) ∧ EEq f2 e2 := by
 simp only [yN, Bool.and_eq_true] at hi
 obtain ⟨⟨⟨d1, d2⟩, d3⟩, hp⟩ := hi
 rw [A7] at d1 d2 d3
 have kA := kN h1 hn
 have kB := kN h2 kA.nodup
 have hd : ∀ t ∈ nT b, eget e1 t = eget e t := fun t ht => kA.out t fun k => d1 t k ht
 have iKa : iK a.2.2 = true := by unfold mM at ca; simp only [Bool.and_eq_true] at ca; exact ca.1.1
 have iKb : iK b.2.2 = true := by unfold mM at cb; simp only [Bool.and_eq_true] at cb; exact cb.1.1
 obtain ⟨G1, g1, g2⟩ := aL9 hT h1 h2 hp iKa iKb hd F
 obtain ⟨f1, x1, x2, x3⟩ := (kN g1 kA.nodup).same e hn (fun t ht => (hd t ht).symm) fun hc => by
  obtain ⟨y1, y2⟩ := aI8 hp (aJu hT hc)
  intro t v hv
  by_cases hw : t ∈ mU a
  ·exact .inl (hL t v (aC6 ca y2 (aJv y1) t hw) hv)
  ·exact .inr (by rw [kA.out t hw]; exact hv)
 obtain ⟨f2, z1, z2, z3⟩ := (kN g2 hn).same f1 (kN x1 hn).nodup (fun t ht => x2 t fun k => d3 t k ht) fun hc => by
  obtain ⟨y1, y2⟩ := aI9 hp (aJu hT hc)
  have hL1 := X6 hT hL cb lb x1
  intro t v hv
  by_cases hw : t ∈ mU b
  ·exact .inl (hL1 t v (aC6 cb y2 (aJv y1) t hw) hv)
  ·exact .inr (by rw [← x2 t hw]; exact hv)
 refine ⟨f1, G1, f2, x1, z1, fun t => ?_⟩
 by_cases hwa : t ∈ mU a
 ·rw [z3 t hwa, kB.out t (d2 t hwa)]
 ·rw [z2 t hwa]
  by_cases hwb : t ∈ mU b
  ·exact x3 t hwb
  ·rw [x2 t hwb, kB.out t hwb, kA.out t hwa]
end
end Go.Abs
namespace Go.Abs
section
variable {T : Orc} {pure : FuncId → Bool} {s : Option Nat} {L free fps : List Nat} {conf : List (Nat × Nat × Nat × Nat)}
theorem yB {t : Nat} {r : jL} {rs : List jL} (h : eH t (r :: rs) = true) (hr : t ∈ nT r) : ∀ x ∈ r :: rs, t ∉ mU x := by
 unfold eH at h
 rw [if_pos (by simpa using hr), List.all_eq_true] at h
 intro x hx k
 have := h x hx
 simp only [Bool.not_eq_true', List.contains_eq_mem, decide_eq_false_iff_not] at this
 exact this k
theorem j8 {t : Nat} : ∀ {rs : List jL}, (∀ x ∈ rs, t ∉ mU x) → eH t rs = true
 | [], _ => rfl
 | r :: rs, h => by
   unfold eH
   split
   ·exact List.all_eq_true.2 fun x hx => by
     have := h x hx
     simp [this]
   ·exact j8 fun x hx => h x (List.mem_cons_of_mem _ hx)
theorem E4 {t : Nat} {r : jL} {rs : List jL} (h : eH t (r :: rs) = true) : eH t rs = true := by
 unfold eH at h
 split at h
 ·rw [List.all_eq_true] at h
  refine j8 fun x hx k => ?_
  have := h x (List.mem_cons_of_mem _ hx)
  simp only [Bool.not_eq_true', List.contains_eq_mem, decide_eq_false_iff_not] at this
  exact this k
 ·exact h
theorem pY {t : Nat} {l l' : List jL} (k : l'.Sublist l) : eH t l = true → eH t l' = true := by
 induction k with
 | slnil => exact id
 | cons r _ ih => exact fun h => ih (E4 h)
 | cons_cons r hs ih =>
   intro h
   by_cases hr : t ∈ nT r
   ·have := yB h hr
    exact j8 fun x hx => this x ((List.Sublist.cons_cons r hs).subset hx)
   ·have h2 := E4 h
    unfold eH
    rw [if_neg (by simpa using hr)]
    exact ih h2
theorem Y5 {t : Nat} (pre : List jL) {suf : List jL} (h : eH t (pre ++ suf) = true) : eH t suf = true := pY (List.sublist_append_right pre suf) h
theorem M4 : ∀ {conf : List (Nat × Nat × Nat × Nat)} {e : aZ}, mV conf e = true → ∀ t n u m, (t, n, u, m) ∈ conf → gC (eget e t) n (eget e u) m = true
 | [], _, _, _, _, _, _, h => by cases h
 | (a, b, c, d) :: r, e, h, t, n, u, m, hm => by
   simp only [mV, Bool.and_eq_true] at h
   rcases List.mem_cons.1 hm with k | k
   ·cases k; exact h.1
   ·exact M4 h.2 t n u m k
theorem M5 : ∀ {free : List Nat} {e : aZ}, iX free e = true → ∀ t ∈ free, ∀ v, eget e t = some v → v.rb 0 = true
 | [], _, _, _, h, _, _ => by cases h
 | a :: r, e, h, t, hm, v, hv => by
   simp only [iX, Bool.and_eq_true] at h
   rcases List.mem_cons.1 hm with k | k
   ·subst k
    have := h.1
    rw [hv] at this
    exact this
   ·exact M5 h.2 t k v hv
theorem aB0 : ∀ {fps : List Nat} {e : aZ}, sK fps e = true → ∀ t ∈ fps, ∀ id o, eget e t ≠ some (.ptr id o)
 | [], _, _, _, h, _, _ => by cases h
 | a :: r, e, h, t, hm, id, o => by
   simp only [sK, Bool.and_eq_true] at h
   rcases List.mem_cons.1 hm with k | k
   ·subst k
    intro hv
    have := h.1
    rw [hv] at this
    cases this
   ·exact aB0 h.2 t k id o
theorem M6 : ∀ {conf : List (Nat × Nat × Nat × Nat)} {e f : aZ}, EEq e f → mV conf e = mV conf f
 | [], _, _, _ => rfl
 | (a, b, c, d) :: r, e, f, h => by simp only [mV, h a, h c, M6 (conf := r) h]
theorem M7 : ∀ {free : List Nat} {e f : aZ}, EEq e f → iX free e = iX free f
 | [], _, _, _ => rfl
 | a :: r, e, f, h => by simp only [iX, h a, M7 (free := r) h]
theorem aB1 : ∀ {fps : List Nat} {e f : aZ}, EEq e f → sK fps e = sK fps f
 | [], _, _, _ => rfl
 | a :: r, e, f, h => by simp only [sK, h a, aB1 (fps := r) h]
theorem aQt (hT : OrcOK T pure) {r : jL} {e e' : aZ} {H H' : aC} (hc : jZ pure r.2.2 ≠ .U) (h : kZ T s r e H = some (e', H')) : H.length ≤ H'.length := by
 cases hk : jZ pure r.2.2 with
 | S => rw [(aQp hk h).1]; exact Nat.le_refl _
 | R => rw [(zJ hk h).1]; exact Nat.le_refl _
 | A => obtain ⟨X, hX⟩ := aQq hk h; rw [hX]; simp
 | C => rw [X7 hT hk h]; exact Nat.le_refl _
 | U => exact absurd hk hc
 | W =>
   rcases gW h with ⟨h1, _⟩ | ⟨v, e1, h1, h2, h3⟩
   ·rw [h1]; exact Nat.le_refl _
   ·obtain ⟨o, xs, hi⟩ := E3 hk (.inr (.inr rfl))
    rw [hi] at h1 hk
    obtain ⟨vs, k1, k2, k3⟩ := E2 h1
    rw [uM] at hk
    cases o <;> simp only at hk <;> try cases hk
    ·simp only [apply] at k2
     unfold aSt at k2
     split at k2
     ·split at k2 <;> cases k2
      unfold xS; simp
     ·cases k2
    ·simp only [apply] at k2
     unfold aFd at k2
     split at k2
     ·split at k2 <;> cases k2
      simp
     ·cases k2
structure Coming (T : Orc) (pure : FuncId → Bool) (L free fps : List Nat) (conf : List (Nat × Nat × Nat × Nat)) (rs : List jL) (E : aZ) : Prop where
 ccalm : ∀ r ∈ rs, mM L r = true ∧ lvIn L r
 cconf : mV conf E = true
 cfree : iX free E = true
 cfps : sK fps E = true
 sconf : ∀ t n u m, (t, n, u, m) ∈ conf → eH t rs = true ∧ eH u rs = true
 sfree : ∀ t ∈ free, eH t rs = true
 sfps : ∀ t ∈ fps, eH t rs = true
theorem Coming.subl {rs rs' : List jL} {E : aZ} (h : Coming T pure L free fps conf rs E) (k : rs'.Sublist rs) : Coming T pure L free fps conf rs' E :=
 ⟨fun r hr => h.ccalm r (k.subset hr), h.cconf, h.cfree, h.cfps, fun t n u m hm => ⟨pY k (h.sconf t n u m hm).1, pY k (h.sconf t n u m hm).2⟩, fun t ht => pY k (h.sfree t ht), fun t ht => pY k (h.sfps t ht)⟩
theorem Coming.eeq {rs : List jL} {E E' : aZ} (h : Coming T pure L free fps conf rs E) (k : EEq E E') : Coming T pure L free fps conf rs E' :=
 ⟨h.ccalm, by rw [← M6 k]; exact h.cconf, by rw [← M7 k]; exact h.cfree, by rw [← aB1 k]; exact h.cfps, h.sconf, h.sfree, h.sfps⟩
theorem d9 {a b : jL} (h : yN pure conf free fps a b = true) : ∀ t ∈ nT b, t ∉ mU a := by
 simp only [yN, Bool.and_eq_true] at h
 have := A7.1 h.1.1.1
 exact fun t ht k => this t k ht
theorem aQu {pre post : List jL} {b : jL} {e E : aZ} {H HE : aC} {t : Nat} (hr : lA T s (pre ++ b :: post) e H = some (E, HE)) (hn : (dN e).Nodup) (hi : ∀ a ∈ pre, yN pure conf free fps a b = true)
 (hs : eH t (pre ++ b :: post) = true) (ht : t ∈ nT b) : eget e t = eget E t := by
 refine (D7 hr hn fun x hx => ?_).symm
 rcases List.mem_append.1 hx with hx | hx
 ·exact d9 (hi x hx) t ht
 ·exact yB (Y5 pre hs) ht x hx
theorem aLa (hT : OrcOK T pure) : ∀ (pre : List jL) {b : jL} {post : List jL} {e E : aZ} {H HE : aC}, lA T s (pre ++ b :: post) e H = some (E, HE) → (dN e).Nodup → LInv L e →
 Coming T pure L free fps conf (pre ++ b :: post) E → (∀ a ∈ pre, yN pure conf free fps a b = true) → (∀ t n, place b.2.2 = some (t, n) → t ∈ fps ∨ ∀ v, eget e t = some v → v.rb H.length = true) →
 ∃ f1 G1 E', kZ T s b e H = some (f1, G1) ∧ lA T s (pre ++ post) f1 G1 = some (E', HE) ∧ EEq E E'
 | [], b, post, e, E, H, HE, hr, hn, hL, hc, hi, hb => by
   obtain ⟨⟨e1, H1⟩, h1, h2⟩ := Option.bind_eq_some_iff.1 (show (kZ T s b e H).bind (fun q => lA T s post q.1 q.2) = some (E, HE) from hr)
   exact ⟨e1, H1, E, h1, h2, EEq.refl _⟩
 | a :: pre, b, post, e, E, H, HE, hr, hn, hL, hc, hi, hb => by
   obtain ⟨⟨e1, H1⟩, h1, h2⟩ := Option.bind_eq_some_iff.1 (show (kZ T s a e H).bind (fun q => lA T s (pre ++ b :: post) q.1 q.2) = some (E, HE) from hr)
   have hia := hi a (List.mem_cons_self ..)
   have ca := hc.ccalm a (List.mem_cons_self ..)
   have cb := hc.ccalm b (List.mem_cons_of_mem _ (List.mem_append_right _ (List.mem_cons_self ..)))
   have kA := kN h1 hn
   have hd := d9 hia
   have hlen : (∀ t n, place b.2.2 = some (t, n) → t ∈ fps) ∨ H.length ≤ H1.length := by
    by_cases hw : aEx a.2.2 = true
    ·obtain ⟨X, hX⟩ := aEd hw h1
     right; rw [hX, List.length_append]; omega
    by_cases hO : ∃ u, l5 a.2.2 = some u
    ·obtain ⟨u, hO⟩ := hO
     exact .inr (X8 hO h1).1
    by_cases hK : ∃ u, l6 a.2.2 = some u
    ·obtain ⟨u, hK⟩ := hK
     exact .inr (X9 hK h1).1
    by_cases hu : jZ pure a.2.2 = .U
    ·left
     intro t n hp
     simp only [yN, Bool.and_eq_true] at hia
     have := hia.2
     unfold yM at this
     rw [hu] at this
     have hb2 : jZ pure b.2.2 = .R ∨ jZ pure b.2.2 = .S := by
      cases hk : jZ pure b.2.2 <;> rw [hk] at this <;> first | exact .inl rfl | exact .inr rfl | cases this
     rcases hb2 with hk | hk
     ·rw [hk] at this
      simp only [Bool.and_eq_true, Bool.or_eq_true] at this
      obtain ⟨t', n', p1, p2⟩ := Y1 (by
       rcases this.1 with ((q | q) | q) | q
       ·exact q
       ·exact absurd q.1 hw
       ·split at q
        ·exact absurd ⟨_, by assumption⟩ hO
        ·cases q
       ·split at q
        ·exact absurd ⟨_, by assumption⟩ hK
        ·cases q)
      rw [p1] at hp
      cases hp
      exact p2
     ·exfalso
      unfold place at hp
      split at hp <;> first | (rename_i hh; rw [hh, uM] at hk; cases hk) | cases hp
    ·exact .inr (aQt hT hu h1)
   obtain ⟨g1, K1, E', i1, i2, i3⟩ := aLa hT pre h2 kA.nodup (X6 hT hL ca.1 ca.2 h1) (hc.subl (List.sublist_cons_self ..)) (fun x hx => hi x (List.mem_cons_of_mem _ hx)) fun t n hp => by
    rcases hlen with k | k
    ·exact .inl (k t n hp)
    ·refine (hb t n hp).imp id fun q v hv => ?_
     rw [kA.out t (hd t (cS (fX hp)))] at hv
     exact V.rb_mono k v (q v hv)
   have sA : ∀ t, eH t (a :: (pre ++ b :: post)) = true → t ∈ nT a → eget e t = eget E t := fun t hs ht =>
    (D7 (show lA T s (a :: (pre ++ b :: post)) e H = some (E, HE) from hr) hn fun x hx => yB hs ht x hx).symm
   have sB : ∀ t, eH t (a :: (pre ++ b :: post)) = true → t ∈ nT b → eget e t = eget E t := fun t hs ht =>
    aQu (pre := a :: pre) (pure := pure) (conf := conf) (free := free) (fps := fps) hr hn hi hs ht
   have F : Facts conf free fps a b e H := by
    refine ⟨fun t n u m hm ht hu => ?_, fun t ht hr' v hv => ?_, fun t ht hr' id o hv => ?_, fun t n hp => hb t n hp⟩
    ·rw [sA t (hc.sconf t n u m hm).1 ht, sB u (hc.sconf t n u m hm).2 hu]
     exact M4 hc.cconf t n u m hm
    ·have : eget e t = eget E t := hr'.elim (sA t (hc.sfree t ht)) (sB t (hc.sfree t ht))
     exact M5 hc.cfree t ht v (by rw [← this]; exact hv)
    ·have : eget e t = eget E t := hr'.elim (sA t (hc.sfps t ht)) (sB t (hc.sfps t ht))
     exact aB0 hc.cfps t ht id o (by rw [← this]; exact hv)
   obtain ⟨f1, G1, f2, x1, x2, x3⟩ := swap hT h1 i1 hia ca.1 cb.1 ca.2 cb.2 hn hL F
   have n1 := (kN x1 hn).nodup
   obtain ⟨E'', y1, y2⟩ := aGw i2 (kN i1 kA.nodup).nodup (kN x2 n1).nodup x3.symm
   refine ⟨f1, G1, E'', x1, ?_, i3.trans y2⟩
   show (kZ T s a f1 G1).bind (fun q => lA T s (pre ++ post) q.1 q.2) = some (E'', HE)
   rw [x2]
   exact y1
end
end Go.Abs
