/-
  A row of a region may go ahead of all rows that have nothing to do with it; regions in whatever order.
-/
import Derived.Test.YtcfefgeheibadaaAbsS
namespace Go.Abs

section
variable {T : Orc} {pure : FuncId → Bool} {s : Option Nat} {L free fps : List Nat} {conf : List (Nat × Nat × Nat × Nat)}

/-! ### Temporaries that nobody turns any more -/
theorem stable_head {t : Nat} {r : Row} {rs : List Row} (h : stable t (r :: rs) = true) (hr : t ∈ rowR r) : ∀ x ∈ r :: rs, t ∉ rowW x := by
  unfold stable at h
  rw [if_pos (by simpa using hr), List.all_eq_true] at h
  intro x hx k
  have := h x hx
  simp only [Bool.not_eq_true', List.contains_eq_mem, decide_eq_false_iff_not] at this
  exact this k
theorem stable_noW {t : Nat} : ∀ {rs : List Row}, (∀ x ∈ rs, t ∉ rowW x) → stable t rs = true
  | [], _ => rfl
  | r :: rs, h => by
    unfold stable
    split
    · exact List.all_eq_true.2 fun x hx => by
        have := h x hx
        simp [this]
    · exact stable_noW fun x hx => h x (List.mem_cons_of_mem _ hx)
theorem stable_tail {t : Nat} {r : Row} {rs : List Row} (h : stable t (r :: rs) = true) : stable t rs = true := by
  unfold stable at h
  split at h
  · rw [List.all_eq_true] at h
    refine stable_noW fun x hx k => ?_
    have := h x (List.mem_cons_of_mem _ hx)
    simp only [Bool.not_eq_true', List.contains_eq_mem, decide_eq_false_iff_not] at this
    exact this k
  · exact h
theorem stable_subl {t : Nat} {l l' : List Row} (k : l'.Sublist l) : stable t l = true → stable t l' = true := by
  induction k with
  | slnil => exact id
  | cons r _ ih => exact fun h => ih (stable_tail h)
  | cons_cons r hs ih =>
    intro h
    by_cases hr : t ∈ rowR r
    · have := stable_head h hr
      exact stable_noW fun x hx => this x ((List.Sublist.cons_cons r hs).subset hx)
    · have h2 := stable_tail h
      unfold stable
      rw [if_neg (by simpa using hr)]
      exact ih h2
theorem stable_append {t : Nat} (pre : List Row) {suf : List Row} (h : stable t (pre ++ suf) = true) : stable t suf = true := stable_subl (List.sublist_append_right pre suf) h

theorem confOK_get : ∀ {conf : List (Nat × Nat × Nat × Nat)} {e : Env}, confOK conf e = true → ∀ t n u m, (t, n, u, m) ∈ conf → apartV (eget e t) n (eget e u) m = true
  | [], _, _, _, _, _, _, h => by cases h
  | (a, b, c, d) :: r, e, h, t, n, u, m, hm => by
    simp only [confOK, Bool.and_eq_true] at h
    rcases List.mem_cons.1 hm with k | k
    · cases k; exact h.1
    · exact confOK_get h.2 t n u m k
theorem freeOK_get : ∀ {free : List Nat} {e : Env}, freeOK free e = true → ∀ t ∈ free, ∀ v, eget e t = some v → v.rb 0 = true
  | [], _, _, _, h, _, _ => by cases h
  | a :: r, e, h, t, hm, v, hv => by
    simp only [freeOK, Bool.and_eq_true] at h
    rcases List.mem_cons.1 hm with k | k
    · subst k
      have := h.1
      rw [hv] at this
      exact this
    · exact freeOK_get h.2 t k v hv
theorem fpsOK_get : ∀ {fps : List Nat} {e : Env}, fpsOK fps e = true → ∀ t ∈ fps, ∀ id o, eget e t ≠ some (.ptr id o)
  | [], _, _, _, h, _, _ => by cases h
  | a :: r, e, h, t, hm, id, o => by
    simp only [fpsOK, Bool.and_eq_true] at h
    rcases List.mem_cons.1 hm with k | k
    · subst k
      intro hv
      have := h.1
      rw [hv] at this
      cases this
    · exact fpsOK_get h.2 t k id o
theorem confOK_eeq : ∀ {conf : List (Nat × Nat × Nat × Nat)} {e f : Env}, EEq e f → confOK conf e = confOK conf f
  | [], _, _, _ => rfl
  | (a, b, c, d) :: r, e, f, h => by simp only [confOK, h a, h c, confOK_eeq (conf := r) h]
theorem freeOK_eeq : ∀ {free : List Nat} {e f : Env}, EEq e f → freeOK free e = freeOK free f
  | [], _, _, _ => rfl
  | a :: r, e, f, h => by simp only [freeOK, h a, freeOK_eeq (free := r) h]
theorem fpsOK_eeq : ∀ {fps : List Nat} {e f : Env}, EEq e f → fpsOK fps e = fpsOK fps f
  | [], _, _, _ => rfl
  | a :: r, e, f, h => by simp only [fpsOK, h a, fpsOK_eeq (fps := r) h]

theorem op1_len (hT : OrcOK T pure) {r : Row} {e e' : Env} {H H' : Heap} (hc : cls pure r.2.2 ≠ .U) (h : op1 T s r e H = some (e', H')) : H.length ≤ H'.length := by
  cases hk : cls pure r.2.2 with
  | S => rw [(op1_S hk h).1]; exact Nat.le_refl _
  | R => rw [(op1_R hk h).1]; exact Nat.le_refl _
  | A => obtain ⟨X, hX⟩ := op1_A hk h; rw [hX]; simp
  | C => rw [op1_C hT hk h]; exact Nat.le_refl _
  | U => exact absurd hk hc
  | W =>
    rcases op1_cases h with ⟨h1, _⟩ | ⟨v, e1, h1, h2, h3⟩
    · rw [h1]; exact Nat.le_refl _
    · obtain ⟨o, xs, hi⟩ := cls_is_op hk (.inr (.inr rfl))
      rw [hi] at h1 hk
      obtain ⟨vs, k1, k2, k3⟩ := op_inv h1
      rw [cls_op] at hk
      cases o <;> simp only at hk <;> try cases hk
      · simp only [apply] at k2
        unfold aSt at k2
        split at k2
        · split at k2 <;> cases k2
          unfold hset; simp
        · cases k2
      · simp only [apply] at k2
        unfold aStn at k2
        split at k2
        · split at k2 <;> cases k2
          simp
        · cases k2

/-- What holds of a list of rows that are still to come, and of the temporaries at the end. -/
structure Coming (T : Orc) (pure : FuncId → Bool) (L free fps : List Nat) (conf : List (Nat × Nat × Nat × Nat)) (rs : List Row) (E : Env) : Prop where
  ccalm : ∀ r ∈ rs, calmRow L r = true ∧ lvIn L r
  cconf : confOK conf E = true
  cfree : freeOK free E = true
  cfps : fpsOK fps E = true
  sconf : ∀ t n u m, (t, n, u, m) ∈ conf → stable t rs = true ∧ stable u rs = true
  sfree : ∀ t ∈ free, stable t rs = true
  sfps : ∀ t ∈ fps, stable t rs = true
theorem Coming.subl {rs rs' : List Row} {E : Env} (h : Coming T pure L free fps conf rs E) (k : rs'.Sublist rs) : Coming T pure L free fps conf rs' E :=
  ⟨fun r hr => h.ccalm r (k.subset hr), h.cconf, h.cfree, h.cfps, fun t n u m hm => ⟨stable_subl k (h.sconf t n u m hm).1, stable_subl k (h.sconf t n u m hm).2⟩, fun t ht => stable_subl k (h.sfree t ht), fun t ht => stable_subl k (h.sfps t ht)⟩
theorem Coming.eeq {rs : List Row} {E E' : Env} (h : Coming T pure L free fps conf rs E) (k : EEq E E') : Coming T pure L free fps conf rs E' :=
  ⟨h.ccalm, by rw [← confOK_eeq k]; exact h.cconf, by rw [← freeOK_eeq k]; exact h.cfree, by rw [← fpsOK_eeq k]; exact h.cfps, h.sconf, h.sfree, h.sfps⟩

theorem disj_of_indep {a b : Row} (h : indep pure conf free fps a b = true) : ∀ t ∈ rowR b, t ∉ rowW a := by
  simp only [indep, Bool.and_eq_true] at h
  have := disj_iff.1 h.1.1.1
  exact fun t ht k => this t k ht
/-- A temporary that the row b looks at is as it will be at the end. -/
theorem settled {pre post : List Row} {b : Row} {e E : Env} {H HE : Heap} {t : Nat} (hr : rops T s (pre ++ b :: post) e H = some (E, HE)) (hn : (keys e).Nodup) (hi : ∀ a ∈ pre, indep pure conf free fps a b = true)
    (hs : stable t (pre ++ b :: post) = true) (ht : t ∈ rowR b) : eget e t = eget E t := by
  refine (rops_keep hr hn fun x hx => ?_).symm
  rcases List.mem_append.1 hx with hx | hx
  · exact disj_of_indep (hi x hx) t ht
  · exact stable_head (stable_append pre hs) ht x hx

theorem bubble (hT : OrcOK T pure) : ∀ (pre : List Row) {b : Row} {post : List Row} {e E : Env} {H HE : Heap}, rops T s (pre ++ b :: post) e H = some (E, HE) → (keys e).Nodup → LInv L e →
    Coming T pure L free fps conf (pre ++ b :: post) E → (∀ a ∈ pre, indep pure conf free fps a b = true) → (∀ t n, place b.2.2 = some (t, n) → t ∈ fps ∨ ∀ v, eget e t = some v → v.rb H.length = true) →
    ∃ f1 G1 E', op1 T s b e H = some (f1, G1) ∧ rops T s (pre ++ post) f1 G1 = some (E', HE) ∧ EEq E E'
  | [], b, post, e, E, H, HE, hr, hn, hL, hc, hi, hb => by
    obtain ⟨⟨e1, H1⟩, h1, h2⟩ := Option.bind_eq_some_iff.1 (show (op1 T s b e H).bind (fun q => rops T s post q.1 q.2) = some (E, HE) from hr)
    exact ⟨e1, H1, E, h1, h2, EEq.refl _⟩
  | a :: pre, b, post, e, E, H, HE, hr, hn, hL, hc, hi, hb => by
    obtain ⟨⟨e1, H1⟩, h1, h2⟩ := Option.bind_eq_some_iff.1 (show (op1 T s a e H).bind (fun q => rops T s (pre ++ b :: post) q.1 q.2) = some (E, HE) from hr)
    have hia := hi a (List.mem_cons_self ..)
    have ca := hc.ccalm a (List.mem_cons_self ..)
    have cb := hc.ccalm b (List.mem_cons_of_mem _ (List.mem_append_right _ (List.mem_cons_self ..)))
    have kA := op1_loc h1 hn
    have hd := disj_of_indep hia
    have hlen : (∀ t n, place b.2.2 = some (t, n) → t ∈ fps) ∨ H.length ≤ H1.length := by
      by_cases hw : isNew a.2.2 = true
      · obtain ⟨X, hX⟩ := op1_new hw h1
        right; rw [hX, List.length_append]; omega
      by_cases hO : ∃ u, isOnly a.2.2 = some u
      · obtain ⟨u, hO⟩ := hO
        exact .inr (op1_only hO h1).1
      by_cases hu : cls pure a.2.2 = .U
      · left
        intro t n hp
        simp only [indep, Bool.and_eq_true] at hia
        have := hia.2
        unfold heapOK at this
        rw [hu] at this
        have hb2 : cls pure b.2.2 = .R ∨ cls pure b.2.2 = .S := by
          cases hk : cls pure b.2.2 <;> rw [hk] at this <;> first | exact .inl rfl | exact .inr rfl | cases this
        rcases hb2 with hk | hk
        · rw [hk] at this
          simp only [Bool.and_eq_true, Bool.or_eq_true] at this
          obtain ⟨t', n', p1, p2⟩ := isFp_inv (by
            rcases this.1 with (q | q) | q
            · exact q
            · exact absurd q.1 hw
            · split at q
              · exact absurd ⟨_, by assumption⟩ hO
              · cases q)
          rw [p1] at hp
          cases hp
          exact p2
        · exfalso
          unfold place at hp
          split at hp <;> first | (rename_i hh; rw [hh, cls_op] at hk; cases hk) | cases hp
      · exact .inr (op1_len hT hu h1)
    obtain ⟨g1, K1, E', i1, i2, i3⟩ := bubble hT pre h2 kA.nodup (op1_LInv hT hL ca.1 ca.2 h1) (hc.subl (List.sublist_cons_self ..)) (fun x hx => hi x (List.mem_cons_of_mem _ hx)) fun t n hp => by
      rcases hlen with k | k
      · exact .inl (k t n hp)
      · refine (hb t n hp).imp id fun q v hv => ?_
        rw [kA.out t (hd t (rowR_of_iR (place_mem hp)))] at hv
        exact V.rb_mono k v (q v hv)
    have sA : ∀ t, stable t (a :: (pre ++ b :: post)) = true → t ∈ rowR a → eget e t = eget E t := fun t hs ht =>
      (rops_keep (show rops T s (a :: (pre ++ b :: post)) e H = some (E, HE) from hr) hn fun x hx => stable_head hs ht x hx).symm
    have sB : ∀ t, stable t (a :: (pre ++ b :: post)) = true → t ∈ rowR b → eget e t = eget E t := fun t hs ht =>
      settled (pre := a :: pre) (pure := pure) (conf := conf) (free := free) (fps := fps) hr hn hi hs ht
    have F : Facts conf free fps a b e H := by
      refine ⟨fun t n u m hm ht hu => ?_, fun t ht hr' v hv => ?_, fun t ht hr' id o hv => ?_, fun t n hp => hb t n hp⟩
      · rw [sA t (hc.sconf t n u m hm).1 ht, sB u (hc.sconf t n u m hm).2 hu]
        exact confOK_get hc.cconf t n u m hm
      · have : eget e t = eget E t := hr'.elim (sA t (hc.sfree t ht)) (sB t (hc.sfree t ht))
        exact freeOK_get hc.cfree t ht v (by rw [← this]; exact hv)
      · have : eget e t = eget E t := hr'.elim (sA t (hc.sfps t ht)) (sB t (hc.sfps t ht))
        exact fpsOK_get hc.cfps t ht id o (by rw [← this]; exact hv)
    obtain ⟨f1, G1, f2, x1, x2, x3⟩ := swap hT h1 i1 hia ca.1 cb.1 ca.2 cb.2 hn hL F
    have n1 := (op1_loc x1 hn).nodup
    obtain ⟨E'', y1, y2⟩ := rops_eeq i2 (op1_loc i1 kA.nodup).nodup (op1_loc x2 n1).nodup x3.symm
    refine ⟨f1, G1, E'', x1, ?_, i3.trans y2⟩
    show (op1 T s a f1 G1).bind (fun q => rops T s (pre ++ post) q.1 q.2) = some (E'', HE)
    rw [x2]
    exact y1
end
end Go.Abs
