/-
  Two rows of a region that have nothing to do with one another may change places; a row may go ahead of all those.
-/
import Derived.Test.YtcfefgeheibadaaAbsI
namespace Go.Abs

/-- What is asked of those who carry out calls, as far as order goes. -/
structure OrcOK (T : Orc) (pure : FuncId → Bool) : Prop where
  pu : ∀ f, pure f = true → T.pu f = true
  same : ∀ s f args H r H', T.run s f args H = some (r, H') → T.pu f = true → H' = H
  noVia : ∀ s f args H r H', T.run s f args H = some (r, H') → r.noVia = true
  free : ∀ s f args H r H', T.pu f = true → T.run s f args H = some (r, H') → V.rbL 0 args = true → ∀ G, T.run s f args G = some (r, G)

section
variable {T : Orc} {pure : FuncId → Bool} {s : Option Nat} {L free fps : List Nat} {conf : List (Nat × Nat × Nat × Nat)}

theorem op1_cases {r : Row} {e e' : Env} {H H' : Heap} (h : op1 T s r e H = some (e', H')) :
    (H' = H ∧ r.2.1 ≠ none ∧ (∀ G, op1 T s r e G = some (e', G)) ∧ e' = delD e r.1) ∨ ∃ v e1, step T s r.2.2 e H = some (v, e1, H') ∧ e' = putD e1 r.1 v ∧ ∀ G G', step T s r.2.2 e G = some (v, e1, G') → op1 T s r e G = some (e', G') := by
  obtain ⟨d, g, i⟩ := r
  cases g with
  | none =>
    obtain ⟨⟨v, e1, H1⟩, h1, h2⟩ := Option.map_eq_some_iff.1 (show (step T s i e H).map (fun r => (putD r.2.1 d r.1, r.2.2)) = some (e', H') from h)
    cases h2
    exact .inr ⟨v, e1, h1, rfl, fun G G' hG => by show (step T s i e G).map _ = _; rw [hG]; rfl⟩
  | some gw =>
    obtain ⟨g, want⟩ := gw
    simp only [op1] at h
    cases hc : eget e g with
    | none => rw [hc] at h; cases h
    | some v =>
      rw [hc] at h
      cases v <;> try cases h
      case tup.refl => exact .inl ⟨rfl, by simp, fun G => by simp only [op1, hc], rfl⟩
      rename_i c
      simp only at h
      by_cases hcw : c = want
      · rw [if_pos hcw] at h
        obtain ⟨⟨v, e1, H1⟩, h1, h2⟩ := Option.map_eq_some_iff.1 h
        cases h2
        exact .inr ⟨v, e1, h1, rfl, fun G G' hG => by simp only [op1, hc, if_pos hcw, hG, Option.map_some]⟩
      · rw [if_neg hcw] at h
        cases h
        exact .inl ⟨rfl, by simp, fun G => by simp only [op1, hc, if_neg hcw], rfl⟩

theorem step_S {i : I} {e e' : Env} {H H' : Heap} {v : V} (hc : cls pure i = .S) (h : step T s i e H = some (v, e', H')) : H' = H ∧ ∀ G, step T s i e G = some (v, e', G) := by
  cases i with
  | mv x =>
    obtain ⟨p, h1, h2⟩ := Option.map_eq_some_iff.1 (show (evX x e).map (fun r => (r.1, r.2, H)) = some (v, e', H') from h)
    cases h2
    exact ⟨rfl, fun G => by simp only [step, h1, Option.map_some]⟩
  | op o xs =>
    simp only [step, Option.bind_eq_some_iff] at h
    obtain ⟨⟨vs, e1⟩, h1, h⟩ := h
    split at h
    · rename_i hw
      obtain ⟨⟨q, K⟩, h2, h3⟩ := Option.map_eq_some_iff.1 h
      cases h3
      obtain ⟨a1, a2⟩ := apply_S hc h2
      refine ⟨a1, fun G => ?_⟩
      simp only [step, h1, Option.bind_some]
      rw [if_pos hw, a2 G]; rfl
    · cases h
  | pick c x y =>
    simp only [step, Option.bind_eq_some_iff] at h
    obtain ⟨⟨u, e1⟩, h1, h⟩ := h
    cases u <;> try cases h
    rename_i b
    obtain ⟨p, h2, h3⟩ := Option.map_eq_some_iff.1 h
    cases h3
    exact ⟨rfl, fun G => by simp only [step, h1, Option.bind_some, h2, Option.map_some]⟩
  | exm j t =>
    simp only [step] at h
    split at h
    · rename_i vs hg
      obtain ⟨u, hu, e1⟩ := Option.map_eq_some_iff.1 h
      cases e1
      exact ⟨rfl, fun G => by simp only [step, hg, hu, Option.map_some]⟩
    · cases h
  | call f xs nw => simp only [cls] at hc; split at hc <;> cases hc
  | cav x xs => cases hc
  | cam tbl x xs => cases hc
theorem op1_S {r : Row} {e e' : Env} {H H' : Heap} (hc : cls pure r.2.2 = .S) (h : op1 T s r e H = some (e', H')) : H' = H ∧ ∀ G, op1 T s r e G = some (e', G) := by
  rcases op1_cases h with ⟨h1, _, h2, _⟩ | ⟨v, e1, h1, h2, h3⟩
  · exact ⟨h1, h2⟩
  · obtain ⟨a1, a2⟩ := step_S hc h1
    exact ⟨a1, fun G => h3 G G (a2 G)⟩
theorem op_inv {o : O} {xs : List X} {e e' : Env} {H H' : Heap} {v : V} (h : step T s (.op o xs) e H = some (v, e', H')) : ∃ vs, evs xs e = some (vs, e') ∧ apply s o vs H = some (v, H') ∧
    ∀ G G', apply s o vs G = some (v, G') → step T s (.op o xs) e G = some (v, e', G') := by
  simp only [step, Option.bind_eq_some_iff] at h
  obtain ⟨⟨vs, e1⟩, h1, h⟩ := h
  split at h
  · rename_i hw
    obtain ⟨⟨q, K⟩, h2, h3⟩ := Option.map_eq_some_iff.1 h
    cases h3
    refine ⟨vs, h1, h2, fun G G' hG => ?_⟩
    simp only [step, h1, Option.bind_some]
    rw [if_pos hw, hG]; rfl
  · cases h
theorem cls_is_op {i : I} {c : Cls} (hc : cls pure i = c) (h : c = .R ∨ c = .A ∨ c = .W) : ∃ o xs, i = .op o xs := by
  cases i with
  | op o xs => exact ⟨o, xs, rfl⟩
  | call f xs nw => simp only [cls] at hc; split at hc <;> subst hc <;> simp at h
  | _ => simp only [cls] at hc; subst hc; simp at h
theorem op1_R {r : Row} {e e' : Env} {H H' : Heap} (hc : cls pure r.2.2 = .R) (h : op1 T s r e H = some (e', H')) : H' = H ∧ ∀ X, op1 T s r e (H ++ X) = some (e', H ++ X) := by
  rcases op1_cases h with ⟨h1, _, h2, _⟩ | ⟨v, e1, h1, h2, h3⟩
  · exact ⟨h1, fun X => h2 _⟩
  · obtain ⟨o, xs, hi⟩ := cls_is_op hc (.inl rfl)
    rw [hi] at h1 hc h3
    obtain ⟨vs, k1, k2, k3⟩ := op_inv h1
    exact ⟨apply_R hc k2, fun X => h3 _ _ (k3 _ _ (apply_R_app hc k2))⟩
theorem op1_A {r : Row} {e e' : Env} {H H' : Heap} (hc : cls pure r.2.2 = .A) (h : op1 T s r e H = some (e', H')) : ∃ X, H' = H ++ X := by
  rcases op1_cases h with ⟨h1, _⟩ | ⟨v, e1, h1, h2, h3⟩
  · exact ⟨[], by simp [h1]⟩
  · obtain ⟨o, xs, hi⟩ := cls_is_op hc (.inr (.inl rfl))
    rw [hi] at h1 hc
    obtain ⟨vs, k1, k2, k3⟩ := op_inv h1
    obtain ⟨x, hx⟩ := apply_A hc k2
    exact ⟨[x], hx⟩
theorem op1_rd {r : Row} {t n : Nat} {e e' : Env} {H H' G : Heap} (hc : cls pure r.2.2 = .R) (hp : place r.2.2 = some (t, n)) (h : op1 T s r e H = some (e', H')) (hs : SameRd e t n H G) : op1 T s r e G = some (e', G) := by
  rcases op1_cases h with ⟨h1, _, h2, _⟩ | ⟨v, e1, h1, h2, h3⟩
  · exact h2 G
  · exact h3 _ _ (step_rd hc hp h1 hs)
theorem op1_W {r : Row} {t n u m : Nat} {e f e' : Env} {H H' : Heap} (hc : cls pure r.2.2 = .W) (hp : place r.2.2 = some (t, n)) (h : op1 T s r e H = some (e', H'))
    (ha : apartV (eget e t) n (eget f u) m = true ∨ apartV (eget f u) m (eget e t) n = true) : SameRd f u m H H' := by
  rcases op1_cases h with ⟨h1, _⟩ | ⟨v, e1, h1, h2, h3⟩
  · subst h1; exact fun _ _ _ => rfl
  · exact step_wr hc hp h1 ha
theorem cls_is_call {i : I} (hc : cls pure i = .C) : ∃ f xs nw, i = .call f xs nw ∧ pure f = true := by
  cases i with
  | call f xs nw => simp only [cls] at hc; split at hc; exact ⟨f, xs, nw, rfl, by assumption⟩; cases hc
  | op o xs => rw [cls_op] at hc; cases o <;> cases hc
  | _ => cases hc
theorem op1_C (hT : OrcOK T pure) {r : Row} {e e' : Env} {H H' : Heap} (hc : cls pure r.2.2 = .C) (h : op1 T s r e H = some (e', H')) : H' = H := by
  rcases op1_cases h with ⟨h1, _⟩ | ⟨v, e1, h1, h2, h3⟩
  · exact h1
  · obtain ⟨f, xs, nw, hi, hf⟩ := cls_is_call hc
    rw [hi] at h1
    simp only [step, Option.bind_eq_some_iff] at h1
    obtain ⟨⟨vs, e2⟩, k1, h1⟩ := h1
    split at h1
    · obtain ⟨⟨q, K⟩, k2, k3⟩ := Option.map_eq_some_iff.1 h1
      cases k3
      exact hT.same _ _ _ _ _ _ (chkN_run k2).1 (hT.pu f hf)
    · cases h1
theorem pre_iff : ∀ {H K : Heap}, pre H K = true → ∃ X, K = H ++ X
  | [], K, _ => ⟨K, rfl⟩
  | a :: r, b :: s, h => by
    simp only [pre, Bool.and_eq_true] at h
    obtain ⟨X, hX⟩ := pre_iff h.2
    exact ⟨X, by rw [hX, St.eqL_eq _ _ h.1]; rfl⟩
  | _ :: _, [], h => by cases h
theorem op1_new {r : Row} {e e' : Env} {H H' : Heap} (hc : isNew r.2.2 = true) (h : op1 T s r e H = some (e', H')) : ∃ X, H' = H ++ X := by
  rcases op1_cases h with ⟨h1, _⟩ | ⟨v, e1, h1, h2, h3⟩
  · exact ⟨[], by rw [h1, List.append_nil]⟩
  · cases hi : r.2.2 with
    | call f xs nw =>
      rw [hi] at h1 hc
      simp only [step, Option.bind_eq_some_iff] at h1
      obtain ⟨⟨vs, e2⟩, k1, h1⟩ := h1
      split at h1
      · obtain ⟨⟨q, K⟩, k2, k3⟩ := Option.map_eq_some_iff.1 h1
        cases k3
        rw [show nw = 1 by simpa [isNew] using hc] at k2
        exact pre_iff (chkN_run k2).2
      · cases h1
    | _ => rw [hi] at hc; cases hc
theorem preX_get : ∀ {n : Nat} {H K : Heap}, preX n H K = true → H.length ≤ K.length ∧ ∀ i, i < H.length → i ≠ n → K[i]? = H[i]?
  | _, [], K, _ => ⟨Nat.zero_le _, fun i hi => by simp at hi⟩
  | 0, a :: r, b :: s, h => by
    obtain ⟨X, hX⟩ := pre_iff (show pre r s = true from h)
    refine ⟨by rw [hX]; simp, fun i hi hn => ?_⟩
    cases i with
    | zero => exact absurd rfl hn
    | succ i => rw [List.getElem?_cons_succ, List.getElem?_cons_succ, hX, List.getElem?_append_left (by simpa using hi)]
  | n + 1, a :: r, b :: s, h => by
    simp only [preX, Bool.and_eq_true] at h
    obtain ⟨h1, h2⟩ := preX_get h.2
    refine ⟨by simpa using h1, fun i hi hn => ?_⟩
    cases i with
    | zero => rw [List.getElem?_cons_zero, List.getElem?_cons_zero, St.eqL_eq _ _ h.1]
    | succ i => rw [List.getElem?_cons_succ, List.getElem?_cons_succ]; exact h2 i (by simpa using hi) (by omega)
  | 0, _ :: _, [], h => by cases h
  | _ + 1, _ :: _, [], h => by cases h
theorem pre_get {H K : Heap} (h : pre H K = true) : H.length ≤ K.length ∧ ∀ i, i < H.length → K[i]? = H[i]? := by
  obtain ⟨X, rfl⟩ := pre_iff h
  exact ⟨by simp, fun i hi => List.getElem?_append_left hi⟩
theorem op1_only {r : Row} {u : Nat} {e e' : Env} {H H' : Heap} (hc : isOnly r.2.2 = some u) (h : op1 T s r e H = some (e', H')) : H.length ≤ H'.length ∧ ∀ i, i < H.length → (∀ j o, eget e u = some (.ptr j o) → i ≠ j) → H'[i]? = H[i]? := by
  rcases op1_cases h with ⟨h1, _⟩ | ⟨v, e1, h1, h2, h3⟩
  · rw [h1]; exact ⟨Nat.le_refl _, fun _ _ _ => rfl⟩
  · cases hi : r.2.2 with
    | call f xs nw =>
      rw [hi] at h1 hc
      unfold isOnly at hc
      split at hc
      · rename_i f' u' xs' hh
        cases hc
        injection hh with _ hxs hnw
        subst hnw hxs
        simp only [step, Option.bind_eq_some_iff] at h1
        obtain ⟨⟨vs, e2⟩, k1, h1⟩ := h1
        split at h1
        · obtain ⟨⟨q, K⟩, k2, k3⟩ := Option.map_eq_some_iff.1 h1
          cases k3
          have hk := (chkN_run k2).2
          simp only [evs, evX, Option.bind_eq_some_iff, Option.map_eq_some_iff] at k1
          obtain ⟨⟨w, e3⟩, ⟨v0, hv0, hw⟩, ⟨ws, e4⟩, _, hvs⟩ := k1
          cases hw
          cases hvs
          simp only at hk
          have hk : okN 2 (v0.dis :: ws) H K = true := hk
          by_cases hp : ∃ j o, v0 = .ptr j o
          · obtain ⟨j, o, rfl⟩ := hp
            have hk : preX j H K = true := hk
            obtain ⟨a1, a2⟩ := preX_get hk
            exact ⟨a1, fun i hi hn => a2 i hi (hn j o hv0)⟩
          · have hk : pre H K = true := by
              cases hv : v0.dis with
              | ptr j o => exact absurd ⟨j, o, dis_ptr hv⟩ hp
              | _ => rw [hv] at hk; exact hk
            obtain ⟨a1, a2⟩ := pre_get hk
            exact ⟨a1, fun i hi _ => a2 i hi⟩
        · cases h1
      · cases hc
    | _ => rw [hi] at hc; cases hc
theorem V.rbL_map {n : Nat} {f : V → V} (hf : ∀ v : V, v.rb n = true → (f v).rb n = true) {vs : List V} (h : V.rbL n vs = true) : V.rbL n (vs.map f) = true := by
  rw [V.rbL_iff] at h ⊢
  intro v hv
  obtain ⟨u, hu, rfl⟩ := List.mem_map.1 hv
  exact hf u (h u hu)
theorem V.rb_dis2 {n : Nat} (v : V) (h : v.rb n = true) : v.dis2.rb n = true := by
  cases v <;> try exact h
  all_goals simp only [V.rb, V.dis2, Bool.and_eq_true] at h ⊢
  · exact h.2
  · exact V.rbL_map V.rb_dis1 h
theorem V.rb_dis {n : Nat} (v : V) (h : v.rb n = true) : v.dis.rb n = true := by
  cases v <;> try exact h
  all_goals simp only [V.rb, V.dis, Bool.and_eq_true] at h ⊢
  · exact h.2
  · exact V.rbL_map V.rb_dis1 h
  · exact V.rbL_map V.rb_dis2 h
theorem rbL0_evs {e' : Env} : ∀ {xs : List X} {vs : List V} {e : Env}, evs xs e = some (vs, e') → (∀ t ∈ xs.flatMap xr, ∀ v, eget e t = some v → v.rb 0 = true) → xs.all xk = true → V.rbL 0 vs = true
  | [], vs, e, h, _, _ => by
    obtain ⟨rfl, rfl⟩ : [] = vs ∧ e = e' := by simpa [evs] using h
    simp [V.rbL]
  | x :: xs, vs, e, h, hr, hk => by
    simp only [evs, Option.bind_eq_some_iff, Option.map_eq_some_iff] at h
    obtain ⟨⟨u, e1⟩, h1, ⟨us, e2⟩, h2, h3⟩ := h
    cases h3
    simp only [List.all_cons, Bool.and_eq_true] at hk
    simp only [V.rbL, Bool.and_eq_true]
    have a1 := (evX_loc x e u e1 h1).1
    refine ⟨?_, rbL0_evs h2 (fun t ht v hv => ?_) hk.2⟩
    · cases x with
      | t n =>
        obtain ⟨w, hw, e1⟩ := Option.map_eq_some_iff.1 (show (eget e n).map (fun x => (x.dis, e)) = some (u, e1) from h1)
        cases e1
        have := hr n (by simp [xr]) w hw
        exact V.rb_dis w this
      | m n =>
        obtain ⟨w, hw, e1⟩ := Option.map_eq_some_iff.1 (show (eget e n).map (fun x => (x, edel e n)) = some (u, e1) from h1)
        cases e1
        exact hr n (by simp [xr]) _ hw
      | k w =>
        obtain ⟨rfl, rfl⟩ : w = u ∧ e = e1 := by simpa [evX] using h1
        have := hk.1
        simp only [xk, Bool.and_eq_true] at this
        exact this.2
    · by_cases hw : t ∈ xw x
      · cases x with
        | m n =>
          obtain ⟨w, hw2, e1⟩ := Option.map_eq_some_iff.1 (show (eget e n).map (fun x => (x, edel e n)) = some (u, e1) from h1)
          cases e1
          have : t = n := by simpa [xw] using hw
          subst this
          rw [eget_edel, if_pos rfl] at hv
          cases hv
        | _ => simp [xw] at hw
      · rw [a1 t hw] at hv
        exact hr t (by simp only [List.flatMap_cons, List.mem_append]; exact .inr ht) v hv
theorem op1_Cfree (hT : OrcOK T pure) {r : Row} {e e' : Env} {H H' : Heap} (hc : cls pure r.2.2 = .C) (hk : iK r.2.2 = true) (h : op1 T s r e H = some (e', H')) (hf : ∀ t ∈ callArgs r.2.2, ∀ v, eget e t = some v → v.rb 0 = true) :
    ∀ G, op1 T s r e G = some (e', G) := by
  rcases op1_cases h with ⟨h1, _, h2, _⟩ | ⟨v, e1, h1, h2, h3⟩
  · exact h2
  · intro G
    refine h3 G G ?_
    obtain ⟨f, xs, nw, hi, hp⟩ := cls_is_call hc
    rw [hi] at h1 hf hk ⊢
    simp only [step, Option.bind_eq_some_iff] at h1 ⊢
    obtain ⟨⟨vs, e2⟩, k1, h1⟩ := h1
    refine ⟨⟨vs, e2⟩, k1, ?_⟩
    split at h1
    · rename_i hw
      obtain ⟨⟨q, K⟩, k2, k3⟩ := Option.map_eq_some_iff.1 h1
      cases k3
      rw [if_pos hw, chkN_of (hT.free _ _ _ _ _ _ (hT.pu f hp) (chkN_run k2).1 (rbL0_evs (e := e) k1 hf hk) G) (okN_refl _ _ G)]; rfl
    · cases h1

theorem place_mem {i : I} {t n : Nat} (h : place i = some (t, n)) : t ∈ iR i := by
  unfold place at h
  split at h <;> cases h <;> simp [iR, xr]
theorem callArgs_mem {i : I} {t : Nat} (h : t ∈ callArgs i) : t ∈ iR i := by
  unfold callArgs at h
  split at h
  · exact h
  · cases h
theorem rowR_of_iR {r : Row} {t : Nat} (h : t ∈ iR r.2.2) : t ∈ rowR r := List.mem_append_left _ h
theorem disj_iff {a b : List Nat} : disjB a b = true ↔ ∀ t ∈ a, t ∉ b := by
  simp [disjB]

/-- No slice just read from a cell lies outside L. -/
def LInv (L : List Nat) (e : Env) : Prop := ∀ t v, t ∉ L → eget e t = some v → v.noVia = true

/-- What is known of the temporaries that two rows look at. -/
structure Facts (conf : List (Nat × Nat × Nat × Nat)) (free fps : List Nat) (a b : Row) (e : Env) (H : Heap) : Prop where
  fconf : ∀ t n u m, (t, n, u, m) ∈ conf → t ∈ rowR a → u ∈ rowR b → apartV (eget e t) n (eget e u) m = true
  ffree : ∀ t ∈ free, (t ∈ rowR a ∨ t ∈ rowR b) → ∀ v, eget e t = some v → v.rb 0 = true
  ffps : ∀ t ∈ fps, (t ∈ rowR a ∨ t ∈ rowR b) → ∀ id o, eget e t ≠ some (.ptr id o)
  frb : ∀ t n, place b.2.2 = some (t, n) → t ∈ fps ∨ ∀ v, eget e t = some v → v.rb H.length = true

theorem sameRd_fp {e : Env} {t n : Nat} {H G : Heap} (h : ∀ id o, eget e t ≠ some (.ptr id o)) : SameRd e t n H G := fun id o k => absurd k (h id o)
theorem isFp_inv {i : I} (h : isFp fps i = true) : ∃ t n, place i = some (t, n) ∧ t ∈ fps := by
  unfold isFp at h
  split at h
  · rename_i t n hp; exact ⟨t, n, hp, by simpa using h⟩
  · cases h

theorem isOnly_mem {i : I} {u : Nat} (h : isOnly i = some u) : u ∈ iR i := by
  unfold isOnly at h
  split at h
  · cases h; simp [iR, xr]
  · cases h
theorem apart_far {i o n j p : Nat} (h : apartV (some (.ptr i o)) n (some (.ptr j p)) far = true) : i ≠ j := by
  simpa [apartV] using h
theorem apart_far' {i o n j p : Nat} (h : apartV (some (.ptr j p)) far (some (.ptr i o)) n = true) : i ≠ j := fun e => by
  have : j ≠ i := by simpa [apartV] using h
  exact this e.symm
/-- The heap's part of it. -/
theorem swap_heap (hT : OrcOK T pure) {a b : Row} {e e1 e2 : Env} {H H1 H2 : Heap} (h1 : op1 T s a e H = some (e1, H1)) (h2 : op1 T s b e1 H1 = some (e2, H2)) (hp : heapOK pure conf free fps a b = true)
    (ka : iK a.2.2 = true) (kb : iK b.2.2 = true) (hd : ∀ t ∈ rowR b, eget e1 t = eget e t) (F : Facts conf free fps a b e H) :
    ∃ G1, op1 T s b e1 H = some (e2, G1) ∧ op1 T s a e G1 = some (e1, H2) := by
  have fpB : ∀ t ∈ fps, t ∈ rowR b → ∀ id o, eget e1 t ≠ some (.ptr id o) := fun t ht hb id o k => F.ffps t ht (.inr hb) id o (by rw [← hd t hb]; exact k)
  have cS1 : cls pure a.2.2 = .S → ∃ G1, op1 T s b e1 H = some (e2, G1) ∧ op1 T s a e G1 = some (e1, H2) := fun hc => by
    obtain ⟨k1, k2⟩ := op1_S hc h1
    subst k1
    exact ⟨H2, h2, k2 H2⟩
  have cS2 : cls pure b.2.2 = .S → ∃ G1, op1 T s b e1 H = some (e2, G1) ∧ op1 T s a e G1 = some (e1, H2) := fun hc => by
    obtain ⟨k1, k2⟩ := op1_S hc h2
    subst k1
    exact ⟨H, k2 H, h1⟩
  unfold heapOK at hp
  split at hp
  · exact cS1 (by assumption)
  · exact cS2 (by assumption)
  · -- R, U
    have ca : cls pure a.2.2 = .R := by assumption
    have cb : cls pure b.2.2 = .U := by assumption
    simp only [Bool.and_eq_true, Bool.or_eq_true] at hp
    obtain ⟨k3, kX⟩ := op1_R ca h1
    subst k3
    rcases hp.1 with (q | q) | q
    rotate_left
    · obtain ⟨X, hX⟩ := op1_new q h2
      exact ⟨H2, h2, by rw [hX]; exact kX X⟩
    · split at q
      · rename_i t n u p1 p2
        simp only [Bool.and_eq_true, List.contains_iff_mem] at q
        have hub : u ∈ rowR b := rowR_of_iR (isOnly_mem p2)
        obtain ⟨a1, a2⟩ := op1_only p2 h2
        refine ⟨H2, h2, op1_rd ca p1 (kX (H2.drop H1.length)) fun id o hv => ?_⟩
        unfold hcells
        congr 1
        by_cases hi : id < H1.length
        · rw [List.getElem?_append_left hi]
          refine a2 id hi fun j o' hj => ?_
          have := F.fconf _ _ _ _ q.2 (rowR_of_iR (place_mem p1)) hub
          rw [hv, ← hd u hub, hj] at this
          exact apart_far this
        · rw [List.getElem?_append_right (by omega), List.getElem?_drop]; congr 1; omega
      · cases q
    obtain ⟨t, n, k1, k2⟩ := isFp_inv q
    exact ⟨H2, h2, op1_rd ca k1 h1 (sameRd_fp fun id o => F.ffps t k2 (.inl (rowR_of_iR (place_mem k1))) id o)⟩
  · -- U, R
    have ca : cls pure a.2.2 = .U := by assumption
    have cb : cls pure b.2.2 = .R := by assumption
    simp only [Bool.and_eq_true, Bool.or_eq_true] at hp
    obtain ⟨k3, _⟩ := op1_R cb h2
    subst k3
    rcases hp.1 with (q | ⟨q, q'⟩) | q
    rotate_left
    rotate_left
    · split at q
      · rename_i t n u p1 p2
        simp only [Bool.and_eq_true, List.contains_iff_mem] at q
        have hua : u ∈ rowR a := rowR_of_iR (isOnly_mem p2)
        have hm := rowR_of_iR (r := b) (place_mem p1)
        obtain ⟨a1, a2⟩ := op1_only p2 h1
        refine ⟨H, op1_rd cb p1 h2 fun id o hv => ?_, h1⟩
        rw [hd t hm] at hv
        have hi : id < H.length := by
          rcases F.frb t n p1 with k | k
          · exact absurd hv (F.ffps t k (.inr hm) id o)
          · simpa only [V.rb, decide_eq_true_eq] using k _ hv
        unfold hcells
        congr 1
        refine (a2 id hi fun j o' hj => ?_).symm
        have := F.fconf _ _ _ _ q.2 hua hm
        rw [hv, hj] at this
        exact apart_far' this
      · cases q
    rotate_left
    · obtain ⟨⟨t, n⟩, k1⟩ := Option.isSome_iff_exists.1 q'
      obtain ⟨X, hX⟩ := op1_new q h1
      refine ⟨H, op1_rd cb k1 h2 ?_, h1⟩
      have hm := rowR_of_iR (place_mem k1)
      rcases F.frb t n k1 with k | k
      · exact sameRd_fp (fpB t k hm)
      · intro id o hv
        rw [hd t hm] at hv
        have := k _ hv
        simp only [V.rb, decide_eq_true_eq] at this
        rw [hX]
        unfold hcells
        rw [List.getElem?_append_left this]
    obtain ⟨t, n, k1, k2⟩ := isFp_inv q
    exact ⟨H, op1_rd cb k1 h2 (sameRd_fp (fpB t k2 (rowR_of_iR (place_mem k1)))), h1⟩
  · -- A, R
    have ca : cls pure a.2.2 = .A := by assumption
    have cb : cls pure b.2.2 = .R := by assumption
    obtain ⟨⟨t, n⟩, k1⟩ := Option.isSome_iff_exists.1 hp
    obtain ⟨k3, _⟩ := op1_R cb h2
    subst k3
    obtain ⟨X, hX⟩ := op1_A ca h1
    refine ⟨H, op1_rd cb k1 h2 ?_, h1⟩
    have hm := rowR_of_iR (place_mem k1)
    rcases F.frb t n k1 with k | k
    · exact sameRd_fp (fpB t k hm)
    · intro id o hv
      rw [hd t hm] at hv
      have := k _ hv
      simp only [V.rb, decide_eq_true_eq] at this
      rw [hX]
      unfold hcells
      rw [List.getElem?_append_left this]
  · -- R, R
    have ca : cls pure a.2.2 = .R := by assumption
    have cb : cls pure b.2.2 = .R := by assumption
    have k1 := (op1_R ca h1).1; subst k1
    have k2 := (op1_R cb h2).1; subst k2
    exact ⟨_, h2, h1⟩
  · -- R, A
    have ca : cls pure a.2.2 = .R := by assumption
    have cb : cls pure b.2.2 = .A := by assumption
    obtain ⟨k1, k2⟩ := op1_R ca h1
    subst k1
    obtain ⟨X, hX⟩ := op1_A cb h2
    exact ⟨H2, h2, by rw [hX]; exact k2 X⟩
  · -- R, C
    have ca : cls pure a.2.2 = .R := by assumption
    have cb : cls pure b.2.2 = .C := by assumption
    have k1 := (op1_R ca h1).1; subst k1
    have k2 := op1_C hT cb h2; subst k2
    exact ⟨_, h2, h1⟩
  · -- C, R
    have ca : cls pure a.2.2 = .C := by assumption
    have cb : cls pure b.2.2 = .R := by assumption
    have k1 := op1_C hT ca h1; subst k1
    have k2 := (op1_R cb h2).1; subst k2
    exact ⟨_, h2, h1⟩
  · -- C, C
    have ca : cls pure a.2.2 = .C := by assumption
    have cb : cls pure b.2.2 = .C := by assumption
    have k1 := op1_C hT ca h1; subst k1
    have k2 := op1_C hT cb h2; subst k2
    exact ⟨_, h2, h1⟩
  · -- C, A
    have ca : cls pure a.2.2 = .C := by assumption
    have cb : cls pure b.2.2 = .A := by assumption
    simp only [Bool.and_eq_true, List.all_eq_true, List.contains_iff_mem] at hp
    have k1 := op1_C hT ca h1; subst k1
    exact ⟨H2, h2, op1_Cfree hT ca ka h1 (fun t ht v hv => F.ffree t (hp.2 t ht) (.inl (rowR_of_iR (callArgs_mem ht))) v hv) H2⟩
  · -- A, C
    have ca : cls pure a.2.2 = .A := by assumption
    have cb : cls pure b.2.2 = .C := by assumption
    simp only [Bool.and_eq_true, List.all_eq_true, List.contains_iff_mem] at hp
    have k1 := op1_C hT cb h2; subst k1
    refine ⟨H, op1_Cfree hT cb kb h2 (fun t ht v hv => ?_) H, h1⟩
    have hm := rowR_of_iR (callArgs_mem ht)
    rw [hd t hm] at hv
    exact F.ffree t (hp.2 t ht) (.inr hm) v hv
  · -- R, W
    have ca : cls pure a.2.2 = .R := by assumption
    have cb : cls pure b.2.2 = .W := by assumption
    simp only [Bool.and_eq_true] at hp
    obtain ⟨_, hp⟩ := hp
    split at hp
    · rename_i t n u m p1 p2
      simp only [List.contains_iff_mem] at hp
      have hb := rowR_of_iR (r := b) (place_mem p2)
      obtain ⟨k1, _⟩ := op1_R ca h1; subst k1
      refine ⟨H2, h2, op1_rd ca p1 h1 (op1_W cb p2 h2 (.inr ?_))⟩
      rw [hd u hb]
      exact F.fconf _ _ _ _ hp (rowR_of_iR (place_mem p1)) hb
    · cases hp
  · -- W, R
    have ca : cls pure a.2.2 = .W := by assumption
    have cb : cls pure b.2.2 = .R := by assumption
    simp only [Bool.and_eq_true] at hp
    obtain ⟨_, hp⟩ := hp
    split at hp
    · rename_i t n u m p1 p2
      simp only [List.contains_iff_mem] at hp
      have hb := rowR_of_iR (r := b) (place_mem p2)
      obtain ⟨k1, _⟩ := op1_R cb h2; subst k1
      refine ⟨H, op1_rd cb p2 h2 ?_, h1⟩
      have := op1_W (f := e1) ca p1 h1 (.inl (by rw [hd u hb]; exact F.fconf _ _ _ _ hp (rowR_of_iR (place_mem p1)) hb))
      exact fun id o k => (this id o k).symm
    · cases hp
  · cases hp
end
end Go.Abs
