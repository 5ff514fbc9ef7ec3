/- A part of the proof of RowSpeakSync: lemmas alone, without conditions. -/
import Derived.Test.YtpcnjabfiahhhaaGreatDoorJ10
set_option linter.all false
namespace Go.Abs
structure OrcOK (T : Orc) (pure : FuncId → Bool) : Prop where
 pu : ∀ f, pure f = true → T.pu f = true
 same : ∀ s f args H r H', T.run s f args H = some (r, H') → T.pu f = true → H' = H
 noVia : ∀ s f args H r H', T.run s f args H = some (r, H') → r.noVia = true
 free : ∀ s f args H r H', T.pu f = true → T.run s f args H = some (r, H') → V.rbL 0 args = true → ∀ G, T.run s f args G = some (r, G)
section
variable {T : Orc} {pure : FuncId → Bool} {s : Option Nat} {L free fps : List Nat} {conf : List (Nat × Nat × Nat × Nat)}
theorem gB {r : iQ} {e e' : aX} {H H' : aB} (h : kG T s r e H = some (e', H')) :
 (H' = H ∧ r.2.1 ≠ none ∧ (∀ G, kG T s r e G = some (e', G)) ∧ e' = U1 e r.1) ∨ ∃ v e1, step T s r.2.2 e H = some (v, e1, H') ∧ e' = nM e1 r.1 v ∧ ∀ G G', step T s r.2.2 e G = some (v, e1, G') → kG T s r e G = some (e', G') := by
 obtain ⟨d, g, i⟩ := r
 cases g with
 | none =>
   obtain ⟨⟨v, e1, H1⟩, h1, h2⟩ := Option.map_eq_some_iff.1 (show (step T s i e H).map (fun r => (nM r.2.1 d r.1, r.2.2)) = some (e', H') from h)
   cases h2
   exact .inr ⟨v, e1, h1, rfl, fun G G' hG => by show (step T s i e G).map _ = _; rw [hG]; rfl⟩
 | some gw =>
   obtain ⟨g, want⟩ := gw
   simp only [kG] at h
   cases hc : eget e g with
   | none => rw [hc] at h; cases h
   | some v =>
     rw [hc] at h
     cases v <;> try cases h
     case tup.refl => exact .inl ⟨rfl, by simp, fun G => by simp only [kG, hc], rfl⟩
     rename_i c
     simp only at h
     by_cases hcw : c = want
     ·rw [if_pos hcw] at h
      obtain ⟨⟨v, e1, H1⟩, h1, h2⟩ := Option.map_eq_some_iff.1 h
      cases h2
      exact .inr ⟨v, e1, h1, rfl, fun G G' hG => by simp only [kG, hc, if_pos hcw, hG, Option.map_some]⟩
     ·rw [if_neg hcw] at h
      cases h
      exact .inl ⟨rfl, by simp, fun G => by simp only [kG, hc, if_neg hcw], rfl⟩
theorem aUh {i : I} {e e' : aX} {H H' : aB} {v : V} (hc : jD pure i = .S) (h : step T s i e H = some (v, e', H')) : H' = H ∧ ∀ G, step T s i e G = some (v, e', G) := by
 cases i with
 | mv x =>
   obtain ⟨p, h1, h2⟩ := Option.map_eq_some_iff.1 (show (gZ x e).map (fun r => (r.1, r.2, H)) = some (v, e', H') from h)
   cases h2
   exact ⟨rfl, fun G => by simp only [step, h1, Option.map_some]⟩
 | op o xs =>
   simp only [step, Option.bind_eq_some_iff] at h
   obtain ⟨⟨vs, e1⟩, h1, h⟩ := h
   split at h
   ·rename_i hw
    obtain ⟨⟨q, K⟩, h2, h3⟩ := Option.map_eq_some_iff.1 h
    cases h3
    obtain ⟨a1, a2⟩ := aQ9 hc h2
    refine ⟨a1, fun G => ?_⟩
    simp only [step, h1, Option.bind_some]
    rw [if_pos hw, a2 G]; rfl
   ·cases h
 | pick c x y =>
   simp only [step, Option.bind_eq_some_iff] at h
   obtain ⟨⟨u, e1⟩, h1, h⟩ := h
   cases u <;> try cases h
   rename_i b
   obtain ⟨p, h2, h3⟩ := Option.map_eq_some_iff.1 h
   cases h3
   exact ⟨rfl, fun G => by simp only [step, h1, Option.bind_some, h2, Option.map_some]⟩
 | exm j t =>
   simp only [step] at h
   split at h
   ·rename_i vs hg
    obtain ⟨u, hu, e1⟩ := Option.map_eq_some_iff.1 h
    cases e1
    exact ⟨rfl, fun G => by simp only [step, hg, hu, Option.map_some]⟩
   ·cases h
 | call f xs nw => simp only [jD] at hc; split at hc <;> cases hc
 | cav x xs => cases hc
 | cam tbl x xs => cases hc
theorem aOo {r : iQ} {e e' : aX} {H H' : aB} (hc : jD pure r.2.2 = .S) (h : kG T s r e H = some (e', H')) : H' = H ∧ ∀ G, kG T s r e G = some (e', G) := by
 rcases gB h with ⟨h1, _, h2, _⟩ | ⟨v, e1, h1, h2, h3⟩
 ·exact ⟨h1, h2⟩
 ·obtain ⟨a1, a2⟩ := aUh hc h1
  exact ⟨a1, fun G => h3 G G (a2 G)⟩
theorem x0 {o : O} {xs : List X} {e e' : aX} {H H' : aB} {v : V} (h : step T s (.op o xs) e H = some (v, e', H')) : ∃ vs, fW xs e = some (vs, e') ∧ apply s o vs H = some (v, H') ∧
 ∀ G G', apply s o vs G = some (v, G') → step T s (.op o xs) e G = some (v, e', G') := by
 simp only [step, Option.bind_eq_some_iff] at h
 obtain ⟨⟨vs, e1⟩, h1, h⟩ := h
 split at h
 ·rename_i hw
  obtain ⟨⟨q, K⟩, h2, h3⟩ := Option.map_eq_some_iff.1 h
  cases h3
  refine ⟨vs, h1, h2, fun G G' hG => ?_⟩
  simp only [step, h1, Option.bind_some]
  rw [if_pos hw, hG]; rfl
 ·cases h
theorem y0 {i : I} {c : Cls} (hc : jD pure i = c) (h : c = .R ∨ c = .A ∨ c = .W) : ∃ o xs, i = .op o xs := by
 cases i with
 | op o xs => exact ⟨o, xs, rfl⟩
 | call f xs nw => simp only [jD] at hc; split at hc <;> subst hc <;> simp at h
 | _ => simp only [jD] at hc; subst hc; simp at h
theorem xU {r : iQ} {e e' : aX} {H H' : aB} (hc : jD pure r.2.2 = .R) (h : kG T s r e H = some (e', H')) : H' = H ∧ ∀ X, kG T s r e (H ++ X) = some (e', H ++ X) := by
 rcases gB h with ⟨h1, _, h2, _⟩ | ⟨v, e1, h1, h2, h3⟩
 ·exact ⟨h1, fun X => h2 _⟩
 ·obtain ⟨o, xs, hi⟩ := y0 hc (.inl rfl)
  rw [hi] at h1 hc h3
  obtain ⟨vs, k1, k2, k3⟩ := x0 h1
  exact ⟨aQa hc k2, fun X => h3 _ _ (k3 _ _ (aE5 hc k2))⟩
theorem aOp {r : iQ} {e e' : aX} {H H' : aB} (hc : jD pure r.2.2 = .A) (h : kG T s r e H = some (e', H')) : ∃ X, H' = H ++ X := by
 rcases gB h with ⟨h1, _⟩ | ⟨v, e1, h1, h2, h3⟩
 ·exact ⟨[], by simp [h1]⟩
 ·obtain ⟨o, xs, hi⟩ := y0 hc (.inr (.inl rfl))
  rw [hi] at h1 hc
  obtain ⟨vs, k1, k2, k3⟩ := x0 h1
  obtain ⟨x, hx⟩ := aQb hc k2
  exact ⟨[x], hx⟩
theorem tP {r : iQ} {t n : Nat} {e e' : aX} {H H' G : aB} (hc : jD pure r.2.2 = .R) (hp : place r.2.2 = some (t, n)) (h : kG T s r e H = some (e', H')) (hs : L8 e t n H G) : kG T s r e G = some (e', G) := by
 rcases gB h with ⟨h1, _, h2, _⟩ | ⟨v, e1, h1, h2, h3⟩
 ·exact h2 G
 ·exact h3 _ _ (aQc hc hp h1 hs)
theorem aRp {r : iQ} {t n u m : Nat} {e f e' : aX} {H H' : aB} (hc : jD pure r.2.2 = .W) (hp : place r.2.2 = some (t, n)) (h : kG T s r e H = some (e', H'))
 (hn : ¬ (n = near ∧ m = near)) (ha : fH (eget e t) n (eget f u) m = true ∨ fH (eget f u) m (eget e t) n = true) : L8 f u m H H' := by
 rcases gB h with ⟨h1, _⟩ | ⟨v, e1, h1, h2, h3⟩
 ·subst h1; exact fun _ _ _ => rfl
 ·exact aQd hc hp h1 hn ha
theorem D4 {i : I} (hc : jD pure i = .C) : ∃ f xs nw, i = .call f xs nw ∧ pure f = true := by
 cases i with
 | call f xs nw => simp only [jD] at hc; split at hc; exact ⟨f, xs, nw, rfl, by assumption⟩; cases hc
 | op o xs => rw [tH] at hc; cases o <;> cases hc
 | _ => cases hc
theorem R0 (hT : OrcOK T pure) {r : iQ} {e e' : aX} {H H' : aB} (hc : jD pure r.2.2 = .C) (h : kG T s r e H = some (e', H')) : H' = H := by
 rcases gB h with ⟨h1, _⟩ | ⟨v, e1, h1, h2, h3⟩
 ·exact h1
 ·obtain ⟨f, xs, nw, hi, hf⟩ := D4 hc
  rw [hi] at h1
  simp only [step, Option.bind_eq_some_iff] at h1
  obtain ⟨⟨vs, e2⟩, k1, h1⟩ := h1
  split at h1
  ·obtain ⟨⟨q, K⟩, k2, k3⟩ := Option.map_eq_some_iff.1 h1
   cases k3
   exact hT.same _ _ _ _ _ _ (oZ k2).1 (hT.pu f hf)
  ·cases h1
theorem H3 : ∀ {H K : aB}, pre H K = true → ∃ X, K = H ++ X
 | [], K, _ => ⟨K, rfl⟩
 | a :: r, b :: s, h => by
   simp only [pre, Bool.and_eq_true] at h
   obtain ⟨X, hX⟩ := H3 h.2
   exact ⟨X, by rw [hX, St.eqL_eq _ _ h.1]; rfl⟩
 | _ :: _, [], h => by cases h
theorem aCn {r : iQ} {e e' : aX} {H H' : aB} (hc : aCv r.2.2 = true) (h : kG T s r e H = some (e', H')) : ∃ X, H' = H ++ X := by
 rcases gB h with ⟨h1, _⟩ | ⟨v, e1, h1, h2, h3⟩
 ·exact ⟨[], by rw [h1, List.append_nil]⟩
 ·cases hi : r.2.2 with
  | call f xs nw =>
    rw [hi] at h1 hc
    simp only [step, Option.bind_eq_some_iff] at h1
    obtain ⟨⟨vs, e2⟩, k1, h1⟩ := h1
    split at h1
    ·obtain ⟨⟨q, K⟩, k2, k3⟩ := Option.map_eq_some_iff.1 h1
     cases k3
     rw [show nw = 1 by simpa [aCv] using hc] at k2
     exact H3 (oZ k2).2
    ·cases h1
  | _ => rw [hi] at hc; cases hc
theorem aFd : ∀ {n : Nat} {H K : aB}, aBo n H K = true → H.length ≤ K.length ∧ ∀ i, i < H.length → i ≠ n → K[i]? = H[i]?
 | _, [], K, _ => ⟨Nat.zero_le _, fun i hi => by simp at hi⟩
 | 0, a :: r, b :: s, h => by
   obtain ⟨X, hX⟩ := H3 (show pre r s = true from h)
   refine ⟨by rw [hX]; simp, fun i hi hn => ?_⟩
   cases i with
   | zero => exact absurd rfl hn
   | succ i => rw [List.getElem?_cons_succ, List.getElem?_cons_succ, hX, List.getElem?_append_left (by simpa using hi)]
 | n + 1, a :: r, b :: s, h => by
   simp only [aBo, Bool.and_eq_true] at h
   obtain ⟨h1, h2⟩ := aFd h.2
   refine ⟨by simpa using h1, fun i hi hn => ?_⟩
   cases i with
   | zero => rw [List.getElem?_cons_zero, List.getElem?_cons_zero, St.eqL_eq _ _ h.1]
   | succ i => rw [List.getElem?_cons_succ, List.getElem?_cons_succ]; exact h2 i (by simpa using hi) (by omega)
 | 0, _ :: _, [], h => by cases h
 | _ + 1, _ :: _, [], h => by cases h
theorem aI2 {H K : aB} (h : pre H K = true) : H.length ≤ K.length ∧ ∀ i, i < H.length → K[i]? = H[i]? := by
 obtain ⟨X, rfl⟩ := H3 h
 exact ⟨by simp, fun i hi => List.getElem?_append_left hi⟩
theorem R1 {r : iQ} {u : Nat} {e e' : aX} {H H' : aB} (hc : zM r.2.2 = some u) (h : kG T s r e H = some (e', H')) : H.length ≤ H'.length ∧ ∀ i, i < H.length → (∀ j o, eget e u = some (.ptr j o) → i ≠ j) → H'[i]? = H[i]? := by
 rcases gB h with ⟨h1, _⟩ | ⟨v, e1, h1, h2, h3⟩
 ·rw [h1]; exact ⟨Nat.le_refl _, fun _ _ _ => rfl⟩
 ·cases hi : r.2.2 with
  | call f xs nw =>
    rw [hi] at h1 hc
    unfold zM at hc
    split at hc
    ·rename_i f' u' xs' hh
     cases hc
     injection hh with _ hxs hnw
     subst hnw hxs
     simp only [step, Option.bind_eq_some_iff] at h1
     obtain ⟨⟨vs, e2⟩, k1, h1⟩ := h1
     split at h1
     ·obtain ⟨⟨q, K⟩, k2, k3⟩ := Option.map_eq_some_iff.1 h1
      cases k3
      have hk := (oZ k2).2
      simp only [fW, gZ, Option.bind_eq_some_iff, Option.map_eq_some_iff] at k1
      obtain ⟨⟨w, e3⟩, ⟨v0, hv0, hw⟩, ⟨ws, e4⟩, _, hvs⟩ := k1
      cases hw
      cases hvs
      simp only at hk
      have hk : okN 2 (v0.dis :: ws) H K = true := hk
      by_cases hp : ∃ j o, v0 = .ptr j o
      ·obtain ⟨j, o, rfl⟩ := hp
       have hk : aBo j H K = true := hk
       obtain ⟨a1, a2⟩ := aFd hk
       exact ⟨a1, fun i hi hn => a2 i hi (hn j o hv0)⟩
      ·have hk : pre H K = true := by
        cases hv : v0.dis with
        | ptr j o => exact absurd ⟨j, o, vK hv⟩ hp
        | _ => rw [hv] at hk; exact hk
       obtain ⟨a1, a2⟩ := aI2 hk
       exact ⟨a1, fun i hi _ => a2 i hi⟩
     ·cases h1
    ·cases hc
  | _ => rw [hi] at hc; cases hc
theorem aAt : ∀ {n : Nat} {H K : aB}, qZ n H K = true → H.length ≤ K.length ∧ (n < H.length → K[n]? = H[n]?)
 | _, [], _, _ => ⟨Nat.zero_le _, fun h => by cases h⟩
 | 0, a :: r, b :: s, h => by
   simp only [qZ, Bool.and_eq_true, decide_eq_true_eq] at h
   exact ⟨by simpa using h.2, fun _ => by simp [St.eqL_eq _ _ h.1]⟩
 | n + 1, a :: r, b :: s, h => by
   obtain ⟨h1, h2⟩ := aAt (n := n) (H := r) (K := s) h
   exact ⟨by simpa using h1, fun k => by simpa using h2 (by simpa using k)⟩
 | 0, _ :: _, [], h => by cases h
 | _ + 1, _ :: _, [], h => by cases h
theorem R2 {r : iQ} {u : Nat} {e e' : aX} {H H' : aB} (hc : zN r.2.2 = some u) (h : kG T s r e H = some (e', H')) : H.length ≤ H'.length ∧ ∀ i, i < H.length → ((∃ o, eget e u = some (.ptr i o)) ∨ ∃ c k, eget e u = some (.fp c k)) → H'[i]? = H[i]? := by
 rcases gB h with ⟨h1, _⟩ | ⟨v, e1, h1, h2, h3⟩
 ·rw [h1]; exact ⟨Nat.le_refl _, fun _ _ _ => rfl⟩
 ·cases hi : r.2.2 with
  | call f xs nw =>
    rw [hi] at h1 hc
    unfold zN at hc
    split at hc
    ·rename_i f' u' xs' hh
     cases hc
     injection hh with _ hxs hnw
     subst hnw hxs
     simp only [step, Option.bind_eq_some_iff] at h1
     obtain ⟨⟨vs, e2⟩, k1, h1⟩ := h1
     split at h1
     ·obtain ⟨⟨q, K⟩, k2, k3⟩ := Option.map_eq_some_iff.1 h1
      cases k3
      have hk := (oZ k2).2
      simp only [fW, gZ, Option.bind_eq_some_iff, Option.map_eq_some_iff] at k1
      obtain ⟨⟨w, e3⟩, ⟨v0, hv0, hw⟩, ⟨ws, e4⟩, _, hvs⟩ := k1
      cases hw
      cases hvs
      simp only at hk
      have hk : okN 3 (v0.dis :: ws) H K = true := hk
      by_cases hp : ∃ j o, v0 = .ptr j o
      ·obtain ⟨j, o, rfl⟩ := hp
       have hk : qZ j H K = true := hk
       obtain ⟨a1, a2⟩ := aAt hk
       refine ⟨a1, fun i hi hn => ?_⟩
       rw [hv0] at hn
       rcases hn with ⟨_, hn⟩ | ⟨_, _, hn⟩ <;> cases hn
       exact a2 hi
      ·have hk : pre H K = true := by
        cases hv : v0.dis with
        | ptr j o => exact absurd ⟨j, o, vK hv⟩ hp
        | _ => rw [hv] at hk; exact hk
       obtain ⟨a1, a2⟩ := aI2 hk
       exact ⟨a1, fun i hi _ => a2 i hi⟩
     ·cases h1
    ·cases hc
  | _ => rw [hi] at hc; cases hc
theorem R3 {i : I} {u : Nat} (h : zN i = some u) : u ∈ iR i := by
 unfold zN at h
 split at h
 ·cases h; simp [iR, xr]
 ·cases h
theorem V.rbL_map {n : Nat} {f : V → V} (hf : ∀ v : V, v.rb n = true → (f v).rb n = true) {vs : List V} (h : V.rbL n vs = true) : V.rbL n (vs.map f) = true := by
 rw [V.rbL_iff] at h ⊢
 intro v hv
 obtain ⟨u, hu, rfl⟩ := List.mem_map.1 hv
 exact hf u (h u hu)
theorem V.rb_dis2 {n : Nat} (v : V) (h : v.rb n = true) : v.dis2.rb n = true := by
 cases v <;> try exact h
 all_goals simp only [V.rb, V.dis2, Bool.and_eq_true] at h ⊢
 ·exact h.2
 ·exact V.rbL_map V.rb_dis1 h
theorem V.rb_dis {n : Nat} (v : V) (h : v.rb n = true) : v.dis.rb n = true := by
 cases v <;> try exact h
 all_goals simp only [V.rb, V.dis, Bool.and_eq_true] at h ⊢
 ·exact h.2
 ·exact V.rbL_map V.rb_dis1 h
 ·exact V.rbL_map V.rb_dis2 h
theorem aFe {e' : aX} : ∀ {xs : List X} {vs : List V} {e : aX}, fW xs e = some (vs, e') → (∀ t ∈ xs.flatMap xr, ∀ v, eget e t = some v → v.rb 0 = true) → xs.all xk = true → V.rbL 0 vs = true
 | [], vs, e, h, _, _ => by
   obtain ⟨rfl, rfl⟩ : [] = vs ∧ e = e' := by simpa [fW] using h
   simp [V.rbL]
 | x :: xs, vs, e, h, hr, hk => by
   simp only [fW, Option.bind_eq_some_iff, Option.map_eq_some_iff] at h
   obtain ⟨⟨u, e1⟩, h1, ⟨us, e2⟩, h2, h3⟩ := h
   cases h3
   simp only [List.all_cons, Bool.and_eq_true] at hk
   simp only [V.rbL, Bool.and_eq_true]
   have a1 := (k9 x e u e1 h1).1
   refine ⟨?_, aFe h2 (fun t ht v hv => ?_) hk.2⟩
   ·cases x with
    | t n =>
      obtain ⟨w, hw, e1⟩ := Option.map_eq_some_iff.1 (show (eget e n).map (fun x => (x.dis, e)) = some (u, e1) from h1)
      cases e1
      have := hr n (by simp [xr]) w hw
      exact V.rb_dis w this
    | m n =>
      obtain ⟨w, hw, e1⟩ := Option.map_eq_some_iff.1 (show (eget e n).map (fun x => (x, bQ e n)) = some (u, e1) from h1)
      cases e1
      exact hr n (by simp [xr]) _ hw
    | k w =>
      obtain ⟨rfl, rfl⟩ : w = u ∧ e = e1 := by simpa [gZ] using h1
      have := hk.1
      simp only [xk, Bool.and_eq_true] at this
      exact this.2
   ·by_cases hw : t ∈ xw x
    ·cases x with
     | m n =>
       obtain ⟨w, hw2, e1⟩ := Option.map_eq_some_iff.1 (show (eget e n).map (fun x => (x, bQ e n)) = some (u, e1) from h1)
       cases e1
       have : t = n := by simpa [xw] using hw
       subst this
       rw [hY, if_pos rfl] at hv
       cases hv
     | _ => simp [xw] at hw
    ·rw [a1 t hw] at hv
     exact hr t (by simp only [List.flatMap_cons, List.mem_append]; exact .inr ht) v hv
theorem aAu (hT : OrcOK T pure) {r : iQ} {e e' : aX} {H H' : aB} (hc : jD pure r.2.2 = .C) (hk : iK r.2.2 = true) (h : kG T s r e H = some (e', H')) (hf : ∀ t ∈ wQ r.2.2, ∀ v, eget e t = some v → v.rb 0 = true) :
 ∀ G, kG T s r e G = some (e', G) := by
 rcases gB h with ⟨h1, _, h2, _⟩ | ⟨v, e1, h1, h2, h3⟩
 ·exact h2
 ·intro G
  refine h3 G G ?_
  obtain ⟨f, xs, nw, hi, hp⟩ := D4 hc
  rw [hi] at h1 hf hk ⊢
  simp only [step, Option.bind_eq_some_iff] at h1 ⊢
  obtain ⟨⟨vs, e2⟩, k1, h1⟩ := h1
  refine ⟨⟨vs, e2⟩, k1, ?_⟩
  split at h1
  ·rename_i hw
   obtain ⟨⟨q, K⟩, k2, k3⟩ := Option.map_eq_some_iff.1 h1
   cases k3
   rw [if_pos hw, G7 (hT.free _ _ _ _ _ _ (hT.pu f hp) (oZ k2).1 (aFe (e := e) k1 hf hk) G) (aE2 _ _ G)]; rfl
  ·cases h1
theorem fF {i : I} {t n : Nat} (h : place i = some (t, n)) : t ∈ iR i := by
 unfold place at h
 split at h <;> cases h <;> simp [iR, xr]
theorem o8 {i : I} {t : Nat} (h : t ∈ wQ i) : t ∈ iR i := by
 unfold wQ at h
 split at h
 ·exact h
 ·cases h
theorem cJ {r : iQ} {t : Nat} (h : t ∈ iR r.2.2) : t ∈ mT r := List.mem_append_left _ h
theorem o9 {a b : List Nat} : y4 a b = true ↔ ∀ t ∈ a, t ∉ b := by
 simp [y4]
def LInv (L : List Nat) (e : aX) : Prop := ∀ t v, t ∉ L → eget e t = some v → v.noVia = true
structure Facts (conf : List (Nat × Nat × Nat × Nat)) (free fps : List Nat) (a b : iQ) (e : aX) (H : aB) : Prop where
 fconf : ∀ t n u m, (t, n, u, m) ∈ conf → t ∈ mT a → u ∈ mT b → fH (eget e t) n (eget e u) m = true
 ffree : ∀ t ∈ free, (t ∈ mT a ∨ t ∈ mT b) → ∀ v, eget e t = some v → v.rb 0 = true
 ffps : ∀ t ∈ fps, (t ∈ mT a ∨ t ∈ mT b) → ∀ id o, eget e t ≠ some (.ptr id o)
 frb : ∀ t n, place b.2.2 = some (t, n) → t ∈ fps ∨ ∀ v, eget e t = some v → v.rb H.length = true
theorem yI {e : aX} {t n : Nat} {H G : aB} (h : ∀ id o, eget e t ≠ some (.ptr id o)) : L8 e t n H G := fun id o k => absurd k (h id o)
theorem R4 {i : I} (h : aOv fps i = true) : ∃ t n, place i = some (t, n) ∧ t ∈ fps := by
 unfold aOv at h
 split at h
 ·rename_i t n hp; exact ⟨t, n, hp, by simpa using h⟩
 ·cases h
theorem R5 {i : I} {u : Nat} (h : zM i = some u) : u ∈ iR i := by
 unfold zM at h
 split at h
 ·cases h; simp [iR, xr]
 ·cases h
theorem aJd {i o n j p : Nat} (h : fH (some (.ptr i o)) n (some (.ptr j p)) far = true) : i ≠ j := by
 simpa [fH, far, near] using h
theorem aGm {i o n j p : Nat} (h : fH (some (.ptr j p)) far (some (.ptr i o)) n = true) : i ≠ j := fun e => by
 have : j ≠ i := by simpa [fH, far, near] using h
 exact this e.symm
theorem aGn {i o : Nat} {y : Option V} (h : fH (some (.ptr i o)) near y near = true) : (∃ p, y = some (.ptr i p)) ∨ ∃ c k, y = some (.fp c k) := by
 cases y with
 | none => cases h
 | some v => cases v <;> first | (simp [fH] at h; done) | (simp [fH] at h; subst h; exact .inl ⟨_, rfl⟩) | exact .inr ⟨_, _, rfl⟩
theorem aFf {i o : Nat} {y : Option V} (h : fH y near (some (.ptr i o)) near = true) : (∃ p, y = some (.ptr i p)) ∨ ∃ c k, y = some (.fp c k) := by
 cases y with
 | none => cases h
 | some v => cases v <;> first | (simp [fH] at h; done) | (simp [fH] at h; subst h; exact .inl ⟨_, rfl⟩) | exact .inr ⟨_, _, rfl⟩
theorem aJe (hT : OrcOK T pure) {a b : iQ} {e e1 e2 : aX} {H H1 H2 : aB} (h1 : kG T s a e H = some (e1, H1)) (h2 : kG T s b e1 H1 = some (e2, H2)) (hp : wR pure conf free fps a b = true)
 (ka : iK a.2.2 = true) (kb : iK b.2.2 = true) (hd : ∀ t ∈ mT b, eget e1 t = eget e t) (F : Facts conf free fps a b e H) :
 ∃ G1, kG T s b e1 H = some (e2, G1) ∧ kG T s a e G1 = some (e1, H2) := by
 have fpB : ∀ t ∈ fps, t ∈ mT b → ∀ id o, eget e1 t ≠ some (.ptr id o) := fun t ht hb id o k => F.ffps t ht (.inr hb) id o (by rw [← hd t hb]; exact k)
 have cS1 : jD pure a.2.2 = .S → ∃ G1, kG T s b e1 H = some (e2, G1) ∧ kG T s a e G1 = some (e1, H2) := fun hc => by
  obtain ⟨k1, k2⟩ := aOo hc h1
  subst k1
  exact ⟨H2, h2, k2 H2⟩
 have cS2 : jD pure b.2.2 = .S → ∃ G1, kG T s b e1 H = some (e2, G1) ∧ kG T s a e G1 = some (e1, H2) := fun hc => by
  obtain ⟨k1, k2⟩ := aOo hc h2
  subst k1
  exact ⟨H, k2 H, h1⟩
 unfold wR at hp
 split at hp
 ·exact cS1 (by assumption)
 ·exact cS2 (by assumption)
 ·
  have ca : jD pure a.2.2 = .R := by assumption
  have cb : jD pure b.2.2 = .U := by assumption
  simp only [Bool.and_eq_true, Bool.or_eq_true] at hp
  obtain ⟨k3, kX⟩ := xU ca h1
  subst k3
  rcases hp.1 with ((q | q) | q) | q
  rotate_left
  ·obtain ⟨X, hX⟩ := aCn q h2
   exact ⟨H2, h2, by rw [hX]; exact kX X⟩
  rotate_left
  ·split at q
   ·rename_i t n u p1 p2
    simp only [Bool.and_eq_true, List.contains_iff_mem] at q
    have hub : u ∈ mT b := cJ (R3 p2)
    obtain ⟨a1, a2⟩ := R2 p2 h2
    refine ⟨H2, h2, tP ca p1 (kX (H2.drop H1.length)) fun id o hv => ?_⟩
    unfold cL
    congr 1
    by_cases hi : id < H1.length
    ·rw [List.getElem?_append_left hi]
     have := F.fconf _ _ _ _ q.2 (cJ (fF p1)) hub
     rw [hv, ← hd u hub] at this
     rcases aGn this with ⟨p, hp⟩ | ⟨c, k, hp⟩
     ·exact a2 id hi (.inl ⟨p, hp⟩)
     ·exact a2 id hi (.inr ⟨c, k, hp⟩)
    ·rw [List.getElem?_append_right (by omega), List.getElem?_drop]; congr 1; omega
   ·cases q
  rotate_left
  ·split at q
   ·rename_i t n u p1 p2
    simp only [Bool.and_eq_true, List.contains_iff_mem] at q
    have hub : u ∈ mT b := cJ (R5 p2)
    obtain ⟨a1, a2⟩ := R1 p2 h2
    refine ⟨H2, h2, tP ca p1 (kX (H2.drop H1.length)) fun id o hv => ?_⟩
    unfold cL
    congr 1
    by_cases hi : id < H1.length
    ·rw [List.getElem?_append_left hi]
     refine a2 id hi fun j o' hj => ?_
     have := F.fconf _ _ _ _ q.2 (cJ (fF p1)) hub
     rw [hv, ← hd u hub, hj] at this
     exact aJd this
    ·rw [List.getElem?_append_right (by omega), List.getElem?_drop]; congr 1; omega
   ·cases q
  obtain ⟨t, n, k1, k2⟩ := R4 q
  exact ⟨H2, h2, tP ca k1 h1 (yI fun id o => F.ffps t k2 (.inl (cJ (fF k1))) id o)⟩
 ·
  have ca : jD pure a.2.2 = .U := by assumption
  have cb : jD pure b.2.2 = .R := by assumption
  simp only [Bool.and_eq_true, Bool.or_eq_true] at hp
  obtain ⟨k3, _⟩ := xU cb h2
  subst k3
  rcases hp.1 with ((q | ⟨q, q'⟩) | q) | q
  rotate_left
  rotate_left
  rotate_left
  ·split at q
   ·rename_i t n u p1 p2
    simp only [Bool.and_eq_true, List.contains_iff_mem] at q
    have hua : u ∈ mT a := cJ (R3 p2)
    have hm := cJ (r := b) (fF p1)
    obtain ⟨a1, a2⟩ := R2 p2 h1
    refine ⟨H, tP cb p1 h2 fun id o hv => ?_, h1⟩
    rw [hd t hm] at hv
    have hi : id < H.length := by
     rcases F.frb t n p1 with k | k
     ·exact absurd hv (F.ffps t k (.inr hm) id o)
     ·simpa only [V.rb, decide_eq_true_eq] using k _ hv
    unfold cL
    congr 1
    have := F.fconf _ _ _ _ q.2 hua hm
    rw [hv] at this
    rcases aFf this with ⟨p, hp⟩ | ⟨c, k, hp⟩
    ·exact (a2 id hi (.inl ⟨p, hp⟩)).symm
    ·exact (a2 id hi (.inr ⟨c, k, hp⟩)).symm
   ·cases q
  rotate_left
  rotate_left
  ·split at q
   ·rename_i t n u p1 p2
    simp only [Bool.and_eq_true, List.contains_iff_mem] at q
    have hua : u ∈ mT a := cJ (R5 p2)
    have hm := cJ (r := b) (fF p1)
    obtain ⟨a1, a2⟩ := R1 p2 h1
    refine ⟨H, tP cb p1 h2 fun id o hv => ?_, h1⟩
    rw [hd t hm] at hv
    have hi : id < H.length := by
     rcases F.frb t n p1 with k | k
     ·exact absurd hv (F.ffps t k (.inr hm) id o)
     ·simpa only [V.rb, decide_eq_true_eq] using k _ hv
    unfold cL
    congr 1
    refine (a2 id hi fun j o' hj => ?_).symm
    have := F.fconf _ _ _ _ q.2 hua hm
    rw [hv, hj] at this
    exact aGm this
   ·cases q
  rotate_left
  ·obtain ⟨⟨t, n⟩, k1⟩ := Option.isSome_iff_exists.1 q'
   obtain ⟨X, hX⟩ := aCn q h1
   refine ⟨H, tP cb k1 h2 ?_, h1⟩
   have hm := cJ (fF k1)
   rcases F.frb t n k1 with k | k
   ·exact yI (fpB t k hm)
   ·intro id o hv
    rw [hd t hm] at hv
    have := k _ hv
    simp only [V.rb, decide_eq_true_eq] at this
    rw [hX]
    unfold cL
    rw [List.getElem?_append_left this]
  obtain ⟨t, n, k1, k2⟩ := R4 q
  exact ⟨H, tP cb k1 h2 (yI (fpB t k2 (cJ (fF k1)))), h1⟩
 ·
  have ca : jD pure a.2.2 = .A := by assumption
  have cb : jD pure b.2.2 = .R := by assumption
  obtain ⟨⟨t, n⟩, k1⟩ := Option.isSome_iff_exists.1 hp
  obtain ⟨k3, _⟩ := xU cb h2
  subst k3
  obtain ⟨X, hX⟩ := aOp ca h1
  refine ⟨H, tP cb k1 h2 ?_, h1⟩
  have hm := cJ (fF k1)
  rcases F.frb t n k1 with k | k
  ·exact yI (fpB t k hm)
  ·intro id o hv
   rw [hd t hm] at hv
   have := k _ hv
   simp only [V.rb, decide_eq_true_eq] at this
   rw [hX]
   unfold cL
   rw [List.getElem?_append_left this]
 ·
  have ca : jD pure a.2.2 = .R := by assumption
  have cb : jD pure b.2.2 = .R := by assumption
  have k1 := (xU ca h1).1; subst k1
  have k2 := (xU cb h2).1; subst k2
  exact ⟨_, h2, h1⟩
 ·
  have ca : jD pure a.2.2 = .R := by assumption
  have cb : jD pure b.2.2 = .A := by assumption
  obtain ⟨k1, k2⟩ := xU ca h1
  subst k1
  obtain ⟨X, hX⟩ := aOp cb h2
  exact ⟨H2, h2, by rw [hX]; exact k2 X⟩
 ·
  have ca : jD pure a.2.2 = .R := by assumption
  have cb : jD pure b.2.2 = .C := by assumption
  have k1 := (xU ca h1).1; subst k1
  have k2 := R0 hT cb h2; subst k2
  exact ⟨_, h2, h1⟩
 ·
  have ca : jD pure a.2.2 = .C := by assumption
  have cb : jD pure b.2.2 = .R := by assumption
  have k1 := R0 hT ca h1; subst k1
  have k2 := (xU cb h2).1; subst k2
  exact ⟨_, h2, h1⟩
 ·
  have ca : jD pure a.2.2 = .C := by assumption
  have cb : jD pure b.2.2 = .C := by assumption
  have k1 := R0 hT ca h1; subst k1
  have k2 := R0 hT cb h2; subst k2
  exact ⟨_, h2, h1⟩
 ·
  have ca : jD pure a.2.2 = .C := by assumption
  have cb : jD pure b.2.2 = .A := by assumption
  simp only [Bool.and_eq_true, List.all_eq_true, List.contains_iff_mem] at hp
  have k1 := R0 hT ca h1; subst k1
  exact ⟨H2, h2, aAu hT ca ka h1 (fun t ht v hv => F.ffree t (hp.2 t ht) (.inl (cJ (o8 ht))) v hv) H2⟩
 ·
  have ca : jD pure a.2.2 = .A := by assumption
  have cb : jD pure b.2.2 = .C := by assumption
  simp only [Bool.and_eq_true, List.all_eq_true, List.contains_iff_mem] at hp
  have k1 := R0 hT cb h2; subst k1
  refine ⟨H, aAu hT cb kb h2 (fun t ht v hv => ?_) H, h1⟩
  have hm := cJ (o8 ht)
  rw [hd t hm] at hv
  exact F.ffree t (hp.2 t ht) (.inr hm) v hv
 ·
  have ca : jD pure a.2.2 = .R := by assumption
  have cb : jD pure b.2.2 = .W := by assumption
  simp only [Bool.and_eq_true] at hp
  obtain ⟨_, hp⟩ := hp
  split at hp
  ·rename_i t n u m p1 p2
   simp only [List.contains_iff_mem, Bool.and_eq_true, bne_iff_ne] at hp
   have hb := cJ (r := b) (fF p2)
   obtain ⟨k1, _⟩ := xU ca h1; subst k1
   refine ⟨H2, h2, tP ca p1 h1 (aRp cb p2 h2 (fun k => hp.1 k.2) (.inr ?_))⟩
   rw [hd u hb]
   exact F.fconf _ _ _ _ hp.2 (cJ (fF p1)) hb
  ·cases hp
 ·
  have ca : jD pure a.2.2 = .W := by assumption
  have cb : jD pure b.2.2 = .R := by assumption
  simp only [Bool.and_eq_true] at hp
  obtain ⟨_, hp⟩ := hp
  split at hp
  ·rename_i t n u m p1 p2
   simp only [List.contains_iff_mem, Bool.and_eq_true, bne_iff_ne] at hp
   have hb := cJ (r := b) (fF p2)
   obtain ⟨k1, _⟩ := xU cb h2; subst k1
   refine ⟨H, tP cb p2 h2 ?_, h1⟩
   have := aRp (f := e1) ca p1 h1 (fun k => hp.1 k.1) (.inl (by rw [hd u hb]; exact F.fconf _ _ _ _ hp.2 (cJ (fF p1)) hb))
   exact fun id o k => (this id o k).symm
  ·cases hp
 ·cases hp
end
end Go.Abs
namespace Go.Abs
section
variable {T : Orc} {pure : FuncId → Bool} {s : Option Nat} {L free fps : List Nat} {conf : List (Nat × Nat × Nat × Nat)}
theorem rV {x : X} {e e' : aX} {v : V} (h : gZ x e = some (v, e')) : ∀ t u, eget e' t = some u → eget e t = some u := by
 cases x with
 | t n => obtain ⟨w, _, e1⟩ := Option.map_eq_some_iff.1 (show (eget e n).map (fun x => (x.dis, e)) = some (v, e') from h); cases e1; exact fun _ _ k => k
 | m n =>
   obtain ⟨w, _, e1⟩ := Option.map_eq_some_iff.1 (show (eget e n).map (fun x => (x, bQ e n)) = some (v, e') from h); cases e1
   intro t u k
   rw [hY] at k
   split at k
   ·cases k
   ·exact k
 | k w => obtain ⟨rfl, rfl⟩ : w = v ∧ e = e' := by simpa [gZ] using h
          exact fun _ _ k => k
theorem k8 : ∀ {xs : List X} {e e' : aX} {vs : List V}, fW xs e = some (vs, e') → ∀ t u, eget e' t = some u → eget e t = some u
 | [], e, e', vs, h => by
   obtain ⟨rfl, rfl⟩ : [] = vs ∧ e = e' := by simpa [fW] using h
   exact fun _ _ k => k
 | x :: xs, e, e', vs, h => by
   simp only [fW, Option.bind_eq_some_iff, Option.map_eq_some_iff] at h
   obtain ⟨⟨u, e1⟩, h1, ⟨us, e2⟩, h2, h3⟩ := h
   cases h3
   exact fun t v k => rV h1 t v (k8 h2 t v k)
theorem LInv.sub {e e' : aX} (h : LInv L e) (k : ∀ t u, eget e' t = some u → eget e t = some u) : LInv L e' := fun t v ht hv => h t v ht (k t v hv)
theorem LInv.put {e : aX} (h : LInv L e) {d : Option Nat} {v : V} (hv : v.noVia = true ∨ ∀ t, d = some t → t ∈ L) : LInv L (nM e d v) := by
 intro t u ht hu
 rw [qM] at hu
 split at hu
 ·rename_i hd
  cases hu
  exact hv.resolve_right fun k => ht (k t hd)
 ·exact h t u ht hu
theorem aId {i : I} {e e' : aX} {H H' : aB} {v : V} (hL : LInv L e) (h : step T s i e H = some (v, e', H')) : LInv L e' := by
 cases i with
 | mv x =>
   obtain ⟨p, h1, h2⟩ := Option.map_eq_some_iff.1 (show (gZ x e).map (fun r => (r.1, r.2, H)) = some (v, e', H') from h)
   cases h2
   exact hL.sub (rV h1)
 | op o xs => obtain ⟨vs, h1, _⟩ := x0 h; exact hL.sub (k8 h1)
 | pick c x y =>
   simp only [step, Option.bind_eq_some_iff] at h
   obtain ⟨⟨u, e1⟩, h1, h⟩ := h
   cases u <;> try cases h
   obtain ⟨p, h2, h3⟩ := Option.map_eq_some_iff.1 h
   cases h3
   exact (hL.sub (rV h1)).sub (rV h2)
 | exm j t =>
   simp only [step] at h
   split at h
   ·rename_i vs hg
    obtain ⟨u, hu, e1⟩ := Option.map_eq_some_iff.1 h
    cases e1
    exact hL.put (d := some t) (.inl rfl)
   ·cases h
 | call f xs nw =>
   simp only [step, Option.bind_eq_some_iff] at h
   obtain ⟨⟨vs, e1⟩, h1, h⟩ := h
   split at h
   ·obtain ⟨q, _, h3⟩ := Option.map_eq_some_iff.1 h
    cases h3
    exact hL.sub (k8 h1)
   ·cases h
 | cav x xs =>
   simp only [step, Option.bind_eq_some_iff] at h
   obtain ⟨⟨u, e0⟩, h0, h⟩ := h
   cases u <;> try cases h
   simp only [Option.bind_eq_some_iff] at h
   obtain ⟨⟨vs, e1⟩, h1, h⟩ := h
   split at h
   ·obtain ⟨q, _, h3⟩ := Option.map_eq_some_iff.1 h
    cases h3
    exact (hL.sub (rV h0)).sub (k8 h1)
   ·cases h
 | cam tbl x xs =>
   simp only [step, Option.bind_eq_some_iff] at h
   obtain ⟨⟨u, e0⟩, h0, h⟩ := h
   cases u <;> try cases h
   simp only at h
   split at h
   ·simp only [Option.bind_eq_some_iff] at h
    obtain ⟨⟨vs, e1⟩, h1, h⟩ := h
    split at h
    ·obtain ⟨q, _, h3⟩ := Option.map_eq_some_iff.1 h
     cases h3
     exact (hL.sub (rV h0)).sub (k8 h1)
    ·cases h
   ·cases h
theorem t5 {x : X} {e e' : aX} {v : V} (hL : LInv L e) (hd : ∀ t ∈ xr x, t ∉ L) (hk : xk x = true) (h : gZ x e = some (v, e')) : v.noVia = true := by
 cases x with
 | t n => obtain ⟨w, _, e1⟩ := Option.map_eq_some_iff.1 (show (eget e n).map (fun x => (x.dis, e)) = some (v, e') from h); cases e1; exact V.dis_noVia w
 | m n =>
   obtain ⟨w, hw, e1⟩ := Option.map_eq_some_iff.1 (show (eget e n).map (fun x => (x, bQ e n)) = some (v, e') from h); cases e1
   exact hL n _ (hd n (by simp [xr])) hw
 | k w =>
   obtain ⟨rfl, rfl⟩ : w = v ∧ e = e' := by simpa [gZ] using h
   simp only [xk, Bool.and_eq_true] at hk
   exact hk.1
theorem aA1 : ∀ {xs : List X} {e e' : aX} {vs : List V}, LInv L e → (∀ t ∈ xs.flatMap xr, t ∉ L) → xs.all xk = true → fW xs e = some (vs, e') → ∀ v ∈ vs, v.noVia = true
 | [], e, e', vs, _, _, _, h => by
   obtain ⟨rfl, rfl⟩ : [] = vs ∧ e = e' := by simpa [fW] using h
   simp
 | x :: xs, e, e', vs, hL, hd, hk, h => by
   simp only [fW, Option.bind_eq_some_iff, Option.map_eq_some_iff] at h
   obtain ⟨⟨u, e1⟩, h1, ⟨us, e2⟩, h2, h3⟩ := h
   cases h3
   simp only [List.all_cons, Bool.and_eq_true] at hk
   simp only [List.flatMap_cons, List.mem_append] at hd
   intro v hv
   rcases List.mem_cons.1 hv with rfl | hv
   ·exact t5 hL (fun t ht => hd t (.inl ht)) hk.1 h1
   ·exact aA1 (hL.sub (rV h1)) (fun t ht => hd t (.inr ht)) hk.2 h2 v hv
theorem vC {x : Option V} {r : V} (h : x.bind V.ntup = some r) : r.noVia = true := by
 obtain ⟨u, hu, h⟩ := Option.bind_eq_some_iff.1 h
 cases u <;> first | (cases h; rfl) | cases h
theorem J6 {op : BinOp} {k : IntKind} {a b : Int} {r : V} (h : bits op k a b = some r) : r.noVia = true := by
 unfold bits at h
 cases op <;> simp only at h <;> cases h <;> rfl
theorem t6 {op : BinOp} {k : IntKind} {a b : Int} {r : V} (h : iop op k a b = some r) : r.noVia = true := by
 unfold iop at h
 cases op <;> simp only at h <;> first | exact J6 h | (cases h; rfl) | (split at h <;> cases h; rfl)
theorem aIe {op : BinOp} {x y r : V} (h : bin op x y = some r) : r.noVia = true := by
 unfold bin at h
 split at h
 ·cases op <;> simp only at h <;> first | exact t6 h | (split at h; exact t6 h; cases h)
 ·cases op <;> simp only at h <;> first | (cases h; done) | (cases h; rfl) | (split at h <;> cases h; rfl)
 ·cases h
theorem aLq {op : UnOp} {x r : V} (h : un op x = some r) : r.noVia = true := by
 unfold un at h
 split at h <;> first | (cases h; rfl) | exact t6 h | exact J6 h | cases h
theorem t7 {le : Int → Int → Bool} : ∀ {vs : List V} {v r : V}, v.noVia = true → mxn le v vs = some r → r.noVia = true
 | [], v, r, hv, h => by simp only [mxn] at h; cases h; exact hv
 | u :: vs, v, r, hv, h => by
   cases v <;> cases u <;> simp only [mxn] at h <;> first | (cases h; done) | exact t7 (v := .int _ _) rfl h
theorem qY {sz bytes : Nat} {s x r : V} {H : aB} (h : eH sz bytes s x H = some r) : r.noVia = true := by
 unfold eH at h
 split at h
 ·split at h
  ·obtain ⟨q, _, h2⟩ := Option.bind_eq_some_iff.1 h
   split at h2
   ·cases h2; rfl
   ·cases h2
  ·cases h
 ·cases h
theorem B2 {o : O} {vs : List V} {H H' : aB} {r : V} (hv : (o = .mx ∨ o = .mn) → ∀ v ∈ vs, v.noVia = true) (hl : o ≠ .lv) (hk : (match o with | .kst v => v.noVia | .tas _ _ z => z.noVia | _ => true) = true)
 (h : apply s o vs H = some (r, H')) : r.noVia = true := by
 cases o <;> simp only [apply] at h
 case lv => exact absurd rfl hl
 case kst v => cases h; exact hk
 case bin => have h := (dN (α := V) h).1; unfold aTi at h; split at h; exact aIe h; cases h
 case beq => have h := (dN (α := V) h).1; unfold aLy at h; split at h <;> cases h; rfl
 case peq => have h := (dN (α := V) h).1; unfold aLz at h; split at h; (obtain ⟨_, _, e⟩ := Option.map_eq_some_iff.1 h; cases e; rfl); cases h
 case ieq => have h := (dN (α := V) h).1; unfold aM0 at h; split at h; (obtain ⟨_, _, e⟩ := Option.map_eq_some_iff.1 h; cases e; rfl); cases h
 case un => have h := (dN (α := V) h).1; unfold aUn at h; split at h; exact aLq h; cases h
 case fa => have h := (dN (α := V) h).1; unfold aFa at h; split at h <;> cases h <;> rfl
 case ix => have h := (dN (α := V) h).1; unfold aIx at h; split at h <;> first | (split at h <;> cases h; rfl) | cases h
 case ixa => have h := (dN (α := V) h).1; unfold K9 at h; split at h <;> first | (split at h <;> cases h; rfl) | cases h
 case ld => have h := (dN (α := V) h).1; unfold aLd at h; split at h <;> first | (obtain ⟨u, _, e⟩ := Option.map_eq_some_iff.1 h; cases e; exact V.dis1_noVia u) | cases h
 case ldn => have h := (dN (α := V) h).1; unfold E1 at h; split at h <;> first | (obtain ⟨u, _, e⟩ := Option.map_eq_some_iff.1 h; cases e; rfl) | (split at h <;> cases h; rfl) | cases h
 case st => unfold aSt at h; split at h <;> first | (split at h <;> cases h; rfl) | cases h
 case stn => unfold aDy at h; split at h <;> first | (split at h <;> cases h; rfl) | cases h
 case nc => have h := (dN (α := V) h).1; unfold aNc at h; split at h <;> cases h <;> rfl
 case box => unfold aIm at h; split at h <;> first | (split at h <;> cases h; rfl) | cases h
 case bfp => have h := (dN (α := V) h).1; unfold aFw at h; split at h <;> first | (split at h <;> cases h; rfl) | cases h
 case alc => split at h <;> cases h; rfl
 case bld => obtain ⟨_, _, e⟩ := Option.map_eq_some_iff.1 h; cases e; rfl
 case bsl => split at h; (obtain ⟨_, _, e⟩ := Option.map_eq_some_iff.1 h; cases e; rfl); cases h
 case fld =>
  have h := (dN (α := V) h).1; unfold aFx at h
  split at h
  ·split at h
   ·exact vC h
   ·split at h <;> cases h; rfl
  ·cases h
 case ixs => have h := (dN (α := V) h).1; unfold aFy at h; split at h <;> first | (split at h; (obtain ⟨_, _, e⟩ := Option.map_eq_some_iff.1 h; cases e; rfl); cases h) | cases h
 case ixv =>
  have h := (dN (α := V) h).1; unfold aFz at h
  split at h
  ·split at h
   ·split at h
    ·exact vC h
    ·split at h <;> cases h; rfl
   ·cases h
  ·cases h
 case slc =>
  have h := (dN (α := V) h).1; unfold aG0 at h
  split at h
  ·obtain ⟨⟨l, hh⟩, _, h⟩ := Option.bind_eq_some_iff.1 h
   simp only at h
   split at h <;> cases h; rfl
  ·obtain ⟨⟨l, hh⟩, _, h⟩ := Option.bind_eq_some_iff.1 h
   simp only at h
   split at h
   ·split at h <;> cases h <;> rfl
   ·cases h
  ·cases h
 case sls => have h := (dN (α := V) h).1; unfold aIn at h; split at h <;> first | (obtain ⟨_, _, e⟩ := Option.map_eq_some_iff.1 h; cases e; rfl) | cases h
 case app => have h := (dN (α := V) h).1; unfold aQ6 at h; split at h; exact qY h; cases h
 case apv =>
  unfold aIo at h
  split at h
  ·split at h
   ·split at h
    ·obtain ⟨y, _, h⟩ := Option.bind_eq_some_iff.1 h
     obtain ⟨z, hz, e⟩ := Option.map_eq_some_iff.1 h
     cases e
     exact qY hz
    ·cases h
   ·obtain ⟨z, hz, e⟩ := Option.map_eq_some_iff.1 h
    cases e
    exact qY hz
  ·cases h
 case apg =>
  unfold L1 at h
  split at h
  ·obtain ⟨q, _, h⟩ := Option.bind_eq_some_iff.1 h
   split at h
   ·split at h <;> cases h <;> rfl
   ·cases h
  ·split at h
   ·obtain ⟨cs, _, h⟩ := Option.bind_eq_some_iff.1 h
    obtain ⟨q, _, h⟩ := Option.bind_eq_some_iff.1 h
    split at h
    ·split at h <;> cases h; rfl
    ·split at h <;> cases h; rfl
   ·cases h
  ·cases h
 case clr =>
  unfold aDz at h
  split at h
  ·split at h
   ·obtain ⟨cs, _, h⟩ := Option.bind_eq_some_iff.1 h
    split at h <;> cases h; rfl
   ·cases h
  ·cases h; rfl
  ·cases h; rfl
  ·cases h
 case cpy =>
  unfold aM2 at h
  split at h
  ·split at h
   ·obtain ⟨cs, _, h⟩ := Option.bind_eq_some_iff.1 h
    obtain ⟨q, _, h⟩ := Option.bind_eq_some_iff.1 h
    split at h <;> cases h; rfl
   ·cases h
  ·cases h
 case ife => have h := (dN (α := V) h).1; unfold aM3 at h; split at h; (obtain ⟨_, _, e⟩ := Option.map_eq_some_iff.1 h; cases e; rfl); cases h
 case tyo => have h := (dN (α := V) h).1; unfold aQ4 at h; split at h <;> first | (split at h <;> cases h; rfl) | cases h
 case cmb => have h := (dN (α := V) h).1; unfold aQ5 at h; split at h <;> first | (split at h <;> cases h; rfl) | cases h
 case sl3 =>
  have h := (dN (α := V) h).1; unfold aBn at h
  split at h
  ·split at h
   ·split at h <;> cases h <;> rfl
   ·cases h
  ·cases h
 case len => have h := (dN (α := V) h).1; unfold aG1 at h; split at h <;> cases h <;> rfl
 case mx =>
  have h := (dN (α := V) h).1; unfold aMx at h
  split at h
  ·exact t7 (hv (.inl rfl) _ (List.mem_cons_self ..)) h
  ·cases h
 case mn =>
  have h := (dN (α := V) h).1; unfold aMn at h
  split at h
  ·exact t7 (hv (.inr rfl) _ (List.mem_cons_self ..)) h
  ·cases h
 case cvi => have h := (dN (α := V) h).1; unfold aM4 at h; split at h <;> cases h; rfl
 case cvs => have h := (dN (α := V) h).1; unfold aM5 at h; split at h <;> cases h; rfl
 case b2s => have h := (dN (α := V) h).1; unfold aG2 at h; split at h <;> first | (split at h; (obtain ⟨_, _, e⟩ := Option.map_eq_some_iff.1 h; cases e; rfl); cases h) | cases h
 case s2b => have h := (dN (α := V) h).1; unfold aM6 at h; split at h <;> cases h; rfl
 case mif => have h := (dN (α := V) h).1; unfold aM7 at h; split at h <;> first | (split at h <;> cases h; rfl) | cases h
 case tas t ok z =>
  have h := (dN (α := V) h).1; unfold aG3 at h
  split at h
  ·split at h
   ·cases h
    split
    ·rfl
    ·exact V.dis_noVia _
   ·split at h <;> cases h; rfl
  ·split at h <;> cases h; rfl
  ·cases h
 case tai =>
  have h := (dN (α := V) h).1; unfold aG4 at h
  split at h
  ·split at h
   ·cases h
    split <;> rfl
   ·split at h <;> cases h; rfl
  ·split at h <;> cases h; rfl
  ·cases h
 case ext => have h := (dN (α := V) h).1; unfold aG5 at h; split at h; exact vC h; cases h
 case mkf => split at h <;> cases h; rfl
 case mks => unfold aG6 at h; split at h <;> first | (split at h <;> cases h; rfl) | cases h
 case pan => cases h
theorem aDr {i : I} : zP i = true ↔ ∃ xs, i = .op .lv xs := by
 unfold zP
 split
 ·exact ⟨fun _ => ⟨_, rfl⟩, fun _ => rfl⟩
 ·rename_i h
  exact ⟨fun k => (by cases k), fun ⟨xs, k⟩ => absurd k (h xs)⟩
theorem J7 {r : iQ} (hc : lT L r = true) (h1 : zP r.2.2 = false) (h2 : ∀ a b xs, r.2.2 ≠ .op (.apv a b) xs) : iK r.2.2 = true ∧ (∀ t ∈ mT r, t ∉ L) ∧ ∀ t, r.1 = some t → t ∉ L := by
 unfold lT at hc
 simp only [Bool.and_eq_true] at hc
 obtain ⟨⟨c1, c2⟩, c3⟩ := hc
 have n1 : ∀ xs, r.2.2 ≠ .op .lv xs := fun xs k => by rw [k] at h1; cases h1
 refine ⟨c1, ?_, ?_⟩
 ·split at c2
  ·rename_i xs k; exact absurd k (n1 xs)
  ·rename_i a b xs k; exact absurd k (h2 a b xs)
  ·rw [o9] at c2
   exact fun t ht k => c2 t k ht
 ·split at c3
  ·rename_i xs k; exact absurd k (n1 xs)
  ·rw [o9] at c3
   exact fun t ht k => c3 t k (by simp [ht])
theorem aFq (hT : OrcOK T pure) {r : iQ} {e e' : aX} {H H' : aB} {v : V} (hL : LInv L e) (hc : lT L r = true) (hl : zP r.2.2 = false) (h : step T s r.2.2 e H = some (v, e', H')) : v.noVia = true := by
 obtain ⟨d, g, i⟩ := r
 simp only at hl h
 by_cases h2 : ∃ a b xs, i = .op (.apv a b) xs
 ·obtain ⟨a, b, xs, rfl⟩ := h2
  obtain ⟨vs, k1, k2, _⟩ := x0 h
  exact B2 (fun k => by rcases k with k | k <;> cases k) (fun k => by cases k) rfl k2
 ·obtain ⟨c1, c2, c3⟩ := J7 hc hl fun a b xs k => h2 ⟨a, b, xs, k⟩
  have c2' : ∀ t ∈ iR i, t ∉ L := fun t ht => c2 t (List.mem_append_left _ ht)
  cases i with
  | mv x =>
    obtain ⟨p, h1, h2⟩ := Option.map_eq_some_iff.1 (show (gZ x e).map (fun r => (r.1, r.2, H)) = some (v, e', H') from h)
    cases h2
    exact t5 hL c2' c1 h1
  | op o xs =>
    obtain ⟨vs, k1, k2, _⟩ := x0 h
    simp only [iK, Bool.and_eq_true] at c1
    refine B2 (fun _ => aA1 hL c2' c1.1 k1) (fun k => ?_) ?_ k2
    ·subst k; cases hl
    ·have := c1.2; cases o <;> first | rfl | exact this
  | pick c x y =>
    simp only [step, Option.bind_eq_some_iff] at h
    obtain ⟨⟨u, e1⟩, h1, h⟩ := h
    cases u <;> try cases h
    rename_i b
    obtain ⟨p, h2, h3⟩ := Option.map_eq_some_iff.1 h
    cases h3
    simp only [iK, Bool.and_eq_true] at c1
    refine t5 (hL.sub (rV h1)) (fun t ht => c2' t ?_) ?_ h2
    ·simp only [iR, List.mem_append]
     cases b
     ·exact .inr ht
     ·exact .inl (.inr ht)
    ·cases b
     ·exact c1.2
     ·exact c1.1.2
  | exm j t =>
    simp only [step] at h
    split at h
    ·rename_i vs hg
     obtain ⟨u, hu, e1⟩ := Option.map_eq_some_iff.1 h
     cases e1
     exact vC hu
    ·cases h
  | call f xs nw =>
    simp only [step, Option.bind_eq_some_iff] at h
    obtain ⟨⟨vs, e1⟩, h1, h⟩ := h
    split at h
    ·obtain ⟨⟨q, K⟩, k2, h3⟩ := Option.map_eq_some_iff.1 h
     cases h3
     exact hT.noVia _ _ _ _ _ _ (oZ k2).1
    ·cases h
  | cav x xs =>
    simp only [step, Option.bind_eq_some_iff] at h
    obtain ⟨⟨u, e0⟩, h0, h⟩ := h
    cases u <;> try cases h
    simp only [Option.bind_eq_some_iff] at h
    obtain ⟨⟨vs, e1⟩, h1, h⟩ := h
    split at h
    ·obtain ⟨⟨q, K⟩, k2, h3⟩ := Option.map_eq_some_iff.1 h
     cases h3
     exact hT.noVia _ _ _ _ _ _ k2
    ·cases h
  | cam tbl x xs =>
    simp only [step, Option.bind_eq_some_iff] at h
    obtain ⟨⟨u, e0⟩, h0, h⟩ := h
    cases u <;> try cases h
    simp only at h
    split at h
    ·simp only [Option.bind_eq_some_iff] at h
     obtain ⟨⟨vs, e1⟩, h1, h⟩ := h
     split at h
     ·obtain ⟨⟨q, K⟩, k2, h3⟩ := Option.map_eq_some_iff.1 h
      cases h3
      exact hT.noVia _ _ _ _ _ _ k2
     ·cases h
    ·cases h
def lvIn (L : List Nat) (r : iQ) : Prop := zP r.2.2 = true → ∀ t, r.1 = some t → t ∈ L
theorem J8 (hT : OrcOK T pure) {r : iQ} {e e' : aX} {H H' : aB} (hL : LInv L e) (hc : lT L r = true) (hl : lvIn L r) (h : kG T s r e H = some (e', H')) : LInv L e' := by
 rcases gB h with ⟨_, _, _, k⟩ | ⟨v, e1, k1, k2, _⟩
 ·subst k
  exact hL.put (.inl rfl)
 ·subst k2
  refine (aId hL k1).put ?_
  cases hv : zP r.2.2 with
  | true => exact .inr (hl hv)
  | false => exact .inl (aFq hT hL hc hv k1)
theorem aHc (hT : OrcOK T pure) {i : I} (h : chk T i = true) : jD pure i = .W ∨ jD pure i = .U := by
 cases i with
 | op o xs => rw [tH]; cases o <;> first | (cases h; done) | exact .inl rfl | exact .inr rfl
 | call f xs nw =>
   simp only [chk, Bool.not_eq_true'] at h
   simp only [jD]
   cases hp : pure f with
   | true => rw [hT.pu f hp] at h; cases h
   | false => exact .inr rfl
 | cav x xs => exact .inr rfl
 | cam t x xs => exact .inr rfl
 | _ => cases h
theorem aHd {i : I} (h : jD pure i = .S ∨ jD pure i = .R) : ∀ a b xs, i ≠ .op (.apv a b) xs := by
 rintro a b xs rfl
 rcases h with h | h <;> cases h
theorem aDs {i : I} (h : jD pure i = .S) : zP i = false := by
 cases hv : zP i with
 | false => rfl
 | true => obtain ⟨xs, rfl⟩ := aDr.1 hv; cases h
theorem aFr {a b : iQ} (hp : wR pure conf free fps a b = true) (hb : jD pure b.2.2 = .W ∨ jD pure b.2.2 = .U) : (jD pure a.2.2 = .S ∨ jD pure a.2.2 = .R) ∧ zP a.2.2 = false := by
 unfold wR at hp
 cases ha : jD pure a.2.2 with
 | S => exact ⟨.inl rfl, aDs ha⟩
 | R =>
   refine ⟨.inr rfl, ?_⟩
   rcases hb with hb | hb <;> rw [ha, hb] at hp <;> simp only [Bool.and_eq_true, Bool.not_eq_true'] at hp
   ·exact hp.1.1.2
   ·exact hp.2
 | _ => rcases hb with hb | hb <;> rw [ha, hb] at hp <;> cases hp
theorem aFs {a b : iQ} (hp : wR pure conf free fps a b = true) (hb : jD pure a.2.2 = .W ∨ jD pure a.2.2 = .U) : (jD pure b.2.2 = .S ∨ jD pure b.2.2 = .R) ∧ zP b.2.2 = false := by
 unfold wR at hp
 cases ha : jD pure b.2.2 with
 | S => exact ⟨.inl rfl, aDs ha⟩
 | R =>
   refine ⟨.inr rfl, ?_⟩
   rcases hb with hb | hb <;> rw [ha, hb] at hp <;> simp only [Bool.and_eq_true, Bool.not_eq_true'] at hp
   ·exact hp.1.2
   ·exact hp.2
 | _ => rcases hb with hb | hb <;> rw [ha, hb] at hp <;> cases hp
theorem aA2 {r : iQ} (hc : lT L r = true) (h1 : zP r.2.2 = false) (h2 : ∀ a b xs, r.2.2 ≠ .op (.apv a b) xs) : ∀ t ∈ lY r, t ∉ L := by
 obtain ⟨_, c2, c3⟩ := J7 hc h1 h2
 intro t ht
 simp only [lY, List.mem_append, Option.mem_toList] at ht
 rcases ht with ht | ht
 ·exact c2 t (List.mem_append_left _ (aFu _ t ht))
 ·exact c3 t ht
theorem swap (hT : OrcOK T pure) {a b : iQ} {e e1 e2 : aX} {H H1 H2 : aB} (h1 : kG T s a e H = some (e1, H1)) (h2 : kG T s b e1 H1 = some (e2, H2)) (hi : wS pure conf free fps a b = true)
 (ca : lT L a = true) (cb : lT L b = true) (la : lvIn L a) (lb : lvIn L b) (hn : (dE e).Nodup) (hL : LInv L e) (F : Facts conf free fps a b e H) :
 ∃ f1 G1 f2, kG T s b e H = some (f1, G1) ∧ kG T s a f1 G1 = some (f2, H2) ∧ EEq f2 e2 := by
 simp only [wS, Bool.and_eq_true] at hi
 obtain ⟨⟨⟨d1, d2⟩, d3⟩, hp⟩ := hi
 rw [o9] at d1 d2 d3
 have kA := jN h1 hn
 have kB := jN h2 kA.nodup
 have hd : ∀ t ∈ mT b, eget e1 t = eget e t := fun t ht => kA.out t fun k => d1 t k ht
 have iKa : iK a.2.2 = true := by unfold lT at ca; simp only [Bool.and_eq_true] at ca; exact ca.1.1
 have iKb : iK b.2.2 = true := by unfold lT at cb; simp only [Bool.and_eq_true] at cb; exact cb.1.1
 obtain ⟨G1, g1, g2⟩ := aJe hT h1 h2 hp iKa iKb hd F
 obtain ⟨f1, x1, x2, x3⟩ := (jN g1 kA.nodup).same e hn (fun t ht => (hd t ht).symm) fun hc => by
  obtain ⟨y1, y2⟩ := aFr hp (aHc hT hc)
  intro t v hv
  by_cases hw : t ∈ lY a
  ·exact .inl (hL t v (aA2 ca y2 (aHd y1) t hw) hv)
  ·exact .inr (by rw [kA.out t hw]; exact hv)
 obtain ⟨f2, z1, z2, z3⟩ := (jN g2 hn).same f1 (jN x1 hn).nodup (fun t ht => x2 t fun k => d3 t k ht) fun hc => by
  obtain ⟨y1, y2⟩ := aFs hp (aHc hT hc)
  have hL1 := J8 hT hL cb lb x1
  intro t v hv
  by_cases hw : t ∈ lY b
  ·exact .inl (hL1 t v (aA2 cb y2 (aHd y1) t hw) hv)
  ·exact .inr (by rw [← x2 t hw]; exact hv)
 refine ⟨f1, G1, f2, x1, z1, fun t => ?_⟩
 by_cases hwa : t ∈ lY a
 ·rw [z3 t hwa, kB.out t (d2 t hwa)]
 ·rw [z2 t hwa]
  by_cases hwb : t ∈ lY b
  ·exact x3 t hwb
  ·rw [x2 t hwb, kB.out t hwb, kA.out t hwa]
end
end Go.Abs
namespace Go.Abs
section
variable {T : Orc} {pure : FuncId → Bool} {s : Option Nat} {L free fps : List Nat} {conf : List (Nat × Nat × Nat × Nat)}
theorem xN {t : Nat} {r : iQ} {rs : List iQ} (h : dS t (r :: rs) = true) (hr : t ∈ mT r) : ∀ x ∈ r :: rs, t ∉ lY x := by
 unfold dS at h
 rw [if_pos (by simpa using hr), List.all_eq_true] at h
 intro x hx k
 have := h x hx
 simp only [Bool.not_eq_true', List.contains_eq_mem, decide_eq_false_iff_not] at this
 exact this k
theorem d0 {t : Nat} : ∀ {rs : List iQ}, (∀ x ∈ rs, t ∉ lY x) → dS t rs = true
 | [], _ => rfl
 | r :: rs, h => by
   unfold dS
   split
   ·exact List.all_eq_true.2 fun x hx => by
     have := h x hx
     simp [this]
   ·exact d0 fun x hx => h x (List.mem_cons_of_mem _ hx)
theorem C7 {t : Nat} {r : iQ} {rs : List iQ} (h : dS t (r :: rs) = true) : dS t rs = true := by
 unfold dS at h
 split at h
 ·rw [List.all_eq_true] at h
  refine d0 fun x hx k => ?_
  have := h x (List.mem_cons_of_mem _ hx)
  simp only [Bool.not_eq_true', List.contains_eq_mem, decide_eq_false_iff_not] at this
  exact this k
 ·exact h
theorem pE {t : Nat} {l l' : List iQ} (k : l'.Sublist l) : dS t l = true → dS t l' = true := by
 induction k with
 | slnil => exact id
 | cons r _ ih => exact fun h => ih (C7 h)
 | cons_cons r hs ih =>
   intro h
   by_cases hr : t ∈ mT r
   ·have := xN h hr
    exact d0 fun x hx => this x ((List.Sublist.cons_cons r hs).subset hx)
   ·have h2 := C7 h
    unfold dS
    rw [if_neg (by simpa using hr)]
    exact ih h2
theorem V7 {t : Nat} (pre : List iQ) {suf : List iQ} (h : dS t (pre ++ suf) = true) : dS t suf = true := pE (List.sublist_append_right pre suf) h
theorem O5 : ∀ {conf : List (Nat × Nat × Nat × Nat)} {e : aX}, mB conf e = true → ∀ t n u m, (t, n, u, m) ∈ conf → fH (eget e t) n (eget e u) m = true
 | [], _, _, _, _, _, _, h => by cases h
 | (a, b, c, d) :: r, e, h, t, n, u, m, hm => by
   simp only [mB, Bool.and_eq_true] at h
   rcases List.mem_cons.1 hm with k | k
   ·cases k; exact h.1
   ·exact O5 h.2 t n u m k
theorem O6 : ∀ {free : List Nat} {e : aX}, iA free e = true → ∀ t ∈ free, ∀ v, eget e t = some v → v.rb 0 = true
 | [], _, _, _, h, _, _ => by cases h
 | a :: r, e, h, t, hm, v, hv => by
   simp only [iA, Bool.and_eq_true] at h
   rcases List.mem_cons.1 hm with k | k
   ·subst k
    have := h.1
    rw [hv] at this
    exact this
   ·exact O6 h.2 t k v hv
theorem aAk : ∀ {fps : List Nat} {e : aX}, rA fps e = true → ∀ t ∈ fps, ∀ id o, eget e t ≠ some (.ptr id o)
 | [], _, _, _, h, _, _ => by cases h
 | a :: r, e, h, t, hm, id, o => by
   simp only [rA, Bool.and_eq_true] at h
   rcases List.mem_cons.1 hm with k | k
   ·subst k
    intro hv
    have := h.1
    rw [hv] at this
    cases this
   ·exact aAk h.2 t k id o
theorem O7 : ∀ {conf : List (Nat × Nat × Nat × Nat)} {e f : aX}, EEq e f → mB conf e = mB conf f
 | [], _, _, _ => rfl
 | (a, b, c, d) :: r, e, f, h => by simp only [mB, h a, h c, O7 (conf := r) h]
theorem O8 : ∀ {free : List Nat} {e f : aX}, EEq e f → iA free e = iA free f
 | [], _, _, _ => rfl
 | a :: r, e, f, h => by simp only [iA, h a, O8 (free := r) h]
theorem aAl : ∀ {fps : List Nat} {e f : aX}, EEq e f → rA fps e = rA fps f
 | [], _, _, _ => rfl
 | a :: r, e, f, h => by simp only [rA, h a, aAl (fps := r) h]
theorem aQu (hT : OrcOK T pure) {r : iQ} {e e' : aX} {H H' : aB} (hc : jD pure r.2.2 ≠ .U) (h : kG T s r e H = some (e', H')) : H.length ≤ H'.length := by
 cases hk : jD pure r.2.2 with
 | S => rw [(aOo hk h).1]; exact Nat.le_refl _
 | R => rw [(xU hk h).1]; exact Nat.le_refl _
 | A => obtain ⟨X, hX⟩ := aOp hk h; rw [hX]; simp
 | C => rw [R0 hT hk h]; exact Nat.le_refl _
 | U => exact absurd hk hc
 | W =>
   rcases gB h with ⟨h1, _⟩ | ⟨v, e1, h1, h2, h3⟩
   ·rw [h1]; exact Nat.le_refl _
   ·obtain ⟨o, xs, hi⟩ := y0 hk (.inr (.inr rfl))
    rw [hi] at h1 hk
    obtain ⟨vs, k1, k2, k3⟩ := x0 h1
    rw [tH] at hk
    cases o <;> simp only at hk <;> try cases hk
    ·simp only [apply] at k2
     unfold aSt at k2
     split at k2
     ·split at k2 <;> cases k2
      unfold wJ; simp
     ·cases k2
    ·simp only [apply] at k2
     unfold aDy at k2
     split at k2
     ·split at k2 <;> cases k2
      simp
     ·cases k2
structure Coming (T : Orc) (pure : FuncId → Bool) (L free fps : List Nat) (conf : List (Nat × Nat × Nat × Nat)) (rs : List iQ) (E : aX) : Prop where
 ccalm : ∀ r ∈ rs, lT L r = true ∧ lvIn L r
 cconf : mB conf E = true
 cfree : iA free E = true
 cfps : rA fps E = true
 sconf : ∀ t n u m, (t, n, u, m) ∈ conf → dS t rs = true ∧ dS u rs = true
 sfree : ∀ t ∈ free, dS t rs = true
 sfps : ∀ t ∈ fps, dS t rs = true
theorem Coming.subl {rs rs' : List iQ} {E : aX} (h : Coming T pure L free fps conf rs E) (k : rs'.Sublist rs) : Coming T pure L free fps conf rs' E :=
 ⟨fun r hr => h.ccalm r (k.subset hr), h.cconf, h.cfree, h.cfps, fun t n u m hm => ⟨pE k (h.sconf t n u m hm).1, pE k (h.sconf t n u m hm).2⟩, fun t ht => pE k (h.sfree t ht), fun t ht => pE k (h.sfps t ht)⟩
theorem Coming.eeq {rs : List iQ} {E E' : aX} (h : Coming T pure L free fps conf rs E) (k : EEq E E') : Coming T pure L free fps conf rs E' :=
 ⟨h.ccalm, by rw [← O7 k]; exact h.cconf, by rw [← O8 k]; exact h.cfree, by rw [← aAl k]; exact h.cfps, h.sconf, h.sfree, h.sfps⟩
theorem zE {a b : iQ} (h : wS pure conf free fps a b = true) : ∀ t ∈ mT b, t ∉ lY a := by
 simp only [wS, Bool.and_eq_true] at h
 have := o9.1 h.1.1.1
 exact fun t ht k => this t k ht
theorem aQv {pre post : List iQ} {b : iQ} {e E : aX} {H HE : aB} {t : Nat} (hr : kH T s (pre ++ b :: post) e H = some (E, HE)) (hn : (dE e).Nodup) (hi : ∀ a ∈ pre, wS pure conf free fps a b = true)
 (hs : dS t (pre ++ b :: post) = true) (ht : t ∈ mT b) : eget e t = eget E t := by
 refine (t8 hr hn fun x hx => ?_).symm
 rcases List.mem_append.1 hx with hx | hx
 ·exact zE (hi x hx) t ht
 ·exact xN (V7 pre hs) ht x hx
theorem aO2 (hT : OrcOK T pure) : ∀ (pre : List iQ) {b : iQ} {post : List iQ} {e E : aX} {H HE : aB}, kH T s (pre ++ b :: post) e H = some (E, HE) → (dE e).Nodup → LInv L e →
 Coming T pure L free fps conf (pre ++ b :: post) E → (∀ a ∈ pre, wS pure conf free fps a b = true) → (∀ t n, place b.2.2 = some (t, n) → t ∈ fps ∨ ∀ v, eget e t = some v → v.rb H.length = true) →
 ∃ f1 G1 E', kG T s b e H = some (f1, G1) ∧ kH T s (pre ++ post) f1 G1 = some (E', HE) ∧ EEq E E'
 | [], b, post, e, E, H, HE, hr, hn, hL, hc, hi, hb => by
   obtain ⟨⟨e1, H1⟩, h1, h2⟩ := Option.bind_eq_some_iff.1 (show (kG T s b e H).bind (fun q => kH T s post q.1 q.2) = some (E, HE) from hr)
   exact ⟨e1, H1, E, h1, h2, EEq.refl _⟩
 | a :: pre, b, post, e, E, H, HE, hr, hn, hL, hc, hi, hb => by
   obtain ⟨⟨e1, H1⟩, h1, h2⟩ := Option.bind_eq_some_iff.1 (show (kG T s a e H).bind (fun q => kH T s (pre ++ b :: post) q.1 q.2) = some (E, HE) from hr)
   have hia := hi a (List.mem_cons_self ..)
   have ca := hc.ccalm a (List.mem_cons_self ..)
   have cb := hc.ccalm b (List.mem_cons_of_mem _ (List.mem_append_right _ (List.mem_cons_self ..)))
   have kA := jN h1 hn
   have hd := zE hia
   have hlen : (∀ t n, place b.2.2 = some (t, n) → t ∈ fps) ∨ H.length ≤ H1.length := by
    by_cases hw : aCv a.2.2 = true
    ·obtain ⟨X, hX⟩ := aCn hw h1
     right; rw [hX, List.length_append]; omega
    by_cases hO : ∃ u, zM a.2.2 = some u
    ·obtain ⟨u, hO⟩ := hO
     exact .inr (R1 hO h1).1
    by_cases hK : ∃ u, zN a.2.2 = some u
    ·obtain ⟨u, hK⟩ := hK
     exact .inr (R2 hK h1).1
    by_cases hu : jD pure a.2.2 = .U
    ·left
     intro t n hp
     simp only [wS, Bool.and_eq_true] at hia
     have := hia.2
     unfold wR at this
     rw [hu] at this
     have hb2 : jD pure b.2.2 = .R ∨ jD pure b.2.2 = .S := by
      cases hk : jD pure b.2.2 <;> rw [hk] at this <;> first | exact .inl rfl | exact .inr rfl | cases this
     rcases hb2 with hk | hk
     ·rw [hk] at this
      simp only [Bool.and_eq_true, Bool.or_eq_true] at this
      obtain ⟨t', n', p1, p2⟩ := R4 (by
       rcases this.1 with ((q | q) | q) | q
       ·exact q
       ·exact absurd q.1 hw
       ·split at q
        ·exact absurd ⟨_, by assumption⟩ hO
        ·cases q
       ·split at q
        ·exact absurd ⟨_, by assumption⟩ hK
        ·cases q)
      rw [p1] at hp
      cases hp
      exact p2
     ·exfalso
      unfold place at hp
      split at hp <;> first | (rename_i hh; rw [hh, tH] at hk; cases hk) | cases hp
    ·exact .inr (aQu hT hu h1)
   obtain ⟨g1, K1, E', i1, i2, i3⟩ := aO2 hT pre h2 kA.nodup (J8 hT hL ca.1 ca.2 h1) (hc.subl (List.sublist_cons_self ..)) (fun x hx => hi x (List.mem_cons_of_mem _ hx)) fun t n hp => by
    rcases hlen with k | k
    ·exact .inl (k t n hp)
    ·refine (hb t n hp).imp id fun q v hv => ?_
     rw [kA.out t (hd t (cJ (fF hp)))] at hv
     exact V.rb_mono k v (q v hv)
   have sA : ∀ t, dS t (a :: (pre ++ b :: post)) = true → t ∈ mT a → eget e t = eget E t := fun t hs ht =>
    (t8 (show kH T s (a :: (pre ++ b :: post)) e H = some (E, HE) from hr) hn fun x hx => xN hs ht x hx).symm
   have sB : ∀ t, dS t (a :: (pre ++ b :: post)) = true → t ∈ mT b → eget e t = eget E t := fun t hs ht =>
    aQv (pre := a :: pre) (pure := pure) (conf := conf) (free := free) (fps := fps) hr hn hi hs ht
   have F : Facts conf free fps a b e H := by
    refine ⟨fun t n u m hm ht hu => ?_, fun t ht hr' v hv => ?_, fun t ht hr' id o hv => ?_, fun t n hp => hb t n hp⟩
    ·rw [sA t (hc.sconf t n u m hm).1 ht, sB u (hc.sconf t n u m hm).2 hu]
     exact O5 hc.cconf t n u m hm
    ·have : eget e t = eget E t := hr'.elim (sA t (hc.sfree t ht)) (sB t (hc.sfree t ht))
     exact O6 hc.cfree t ht v (by rw [← this]; exact hv)
    ·have : eget e t = eget E t := hr'.elim (sA t (hc.sfps t ht)) (sB t (hc.sfps t ht))
     exact aAk hc.cfps t ht id o (by rw [← this]; exact hv)
   obtain ⟨f1, G1, f2, x1, x2, x3⟩ := swap hT h1 i1 hia ca.1 cb.1 ca.2 cb.2 hn hL F
   have n1 := (jN x1 hn).nodup
   obtain ⟨E'', y1, y2⟩ := aDv i2 (jN i1 kA.nodup).nodup (jN x2 n1).nodup x3.symm
   refine ⟨f1, G1, E'', x1, ?_, i3.trans y2⟩
   show (kG T s a f1 G1).bind (fun q => kH T s (pre ++ post) q.1 q.2) = some (E'', HE)
   rw [x2]
   exact y1
end
end Go.Abs
