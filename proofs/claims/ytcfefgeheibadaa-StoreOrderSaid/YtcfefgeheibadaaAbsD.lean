/-
  Regions in whatever order.
-/
import Derived.Test.YtcfefgeheibadaaAbsC
namespace Go.Abs
open Go.RowKit (Below)

/-! ### What comes before an operation in every order -/
abbrev ancOf (o : Oper) (acc : List Nat) : Nat := o.after.toList.foldl (fun s e => if Region.binds .any e then s ||| 1 <<< e.on ||| acc.getD e.on 0 else s) 0
theorem fold_bit {acc : List Nat} {i : Nat} : ∀ (l : List Edge) (s : Nat), (l.foldl (fun s e => if Region.binds .any e then s ||| 1 <<< e.on ||| acc.getD e.on 0 else s) s).testBit i = true →
    s.testBit i = true ∨ ∃ e ∈ l, Region.binds .any e = true ∧ (i = e.on ∨ (acc.getD e.on 0).testBit i = true)
  | [], s, h => .inl h
  | e :: l, s, h => by
    simp only [List.foldl_cons] at h
    rcases fold_bit l _ h with k | ⟨x, hx, k⟩
    · split at k
      · rename_i hb
        simp only [Nat.testBit_or, Bool.or_eq_true, Nat.one_shiftLeft, Nat.testBit_two_pow, decide_eq_true_eq] at k
        rcases k with (k | k) | k
        · exact .inl k
        · exact .inr ⟨e, List.mem_cons_self .., hb, .inl k.symm⟩
        · exact .inr ⟨e, List.mem_cons_self .., hb, .inr k⟩
      · exact .inl k
    · exact .inr ⟨x, List.mem_cons_of_mem _ hx, k⟩
theorem ancs_get : ∀ (ops : List Oper) (acc : List Nat) (k m : Nat), (ancs ops acc)[k]? = some m → ∃ o, ops[k]? = some o ∧ m = ancOf o (acc ++ (ancs ops acc).take k)
  | [], acc, k, m, h => by simp [ancs] at h
  | o :: r, acc, 0, m, h => by
    simp only [ancs, List.getElem?_cons_zero, Option.some.injEq] at h
    exact ⟨o, rfl, by simpa using h.symm⟩
  | o :: r, acc, k + 1, m, h => by
    simp only [ancs, List.getElem?_cons_succ] at h
    obtain ⟨o', h1, h2⟩ := ancs_get r _ k m h
    refine ⟨o', by simpa using h1, ?_⟩
    rw [h2]
    simp only [ancs, List.take_succ_cons, List.append_assoc, List.singleton_append]
theorem ancs_bit {ops : List Oper} {j m i : Nat} {o : Oper} (hm : (ancs ops [])[j]? = some m) (ho : ops[j]? = some o) (hb : ∀ e ∈ o.after, Region.binds .any e = true → e.on < j) (h : m.testBit i = true) :
    ∃ e ∈ o.after, Region.binds .any e = true ∧ (i = e.on ∨ ((ancs ops []).getD e.on 0).testBit i = true) := by
  obtain ⟨o', h1, h2⟩ := ancs_get ops [] j m hm
  rw [ho] at h1
  cases h1
  subst h2
  rcases fold_bit _ _ h with k | ⟨e, he, k1, k2⟩
  · simp at k
  · have he' : e ∈ o.after := by simpa using he
    refine ⟨e, he', k1, k2.imp id fun k => ?_⟩
    rw [List.nil_append, List.getD_eq_getElem?_getD, List.getElem?_take, if_pos (hb e he' k1)] at k
    rw [List.getD_eq_getElem?_getD]
    exact k
theorem drawPairs_get {pure : FuncId → Bool} {conf : List (Nat × Nat × Nat × Nat)} {free fps : List Nat} : ∀ {rows : List Row} {j : Nat} {before : List (Row × Nat)} {ms : List Nat}, drawPairs pure conf free fps rows j before ms = true →
    ∀ (k : Nat) (b : Row), rows[k]? = some b → ∃ m, ms[k]? = some m ∧ (∀ p ∈ before, m.testBit p.2 = true ∨ indep pure conf free fps p.1 b = true) ∧
      ∀ (l : Nat) (a : Row), l < k → rows[l]? = some a → m.testBit (j + l) = true ∨ indep pure conf free fps a b = true
  | [], _, _, _, _, k, b, hb => by simp at hb
  | _ :: _, _, _, [], h, _, _, _ => by simp [drawPairs] at h
  | x :: rows, j, before, m :: ms, h, k, b, hb => by
    simp only [drawPairs, Bool.and_eq_true, List.all_eq_true, Bool.or_eq_true] at h
    cases k with
    | zero =>
      simp at hb; subst hb
      exact ⟨m, rfl, h.1, fun l a hl => by omega⟩
    | succ k =>
      obtain ⟨m', h1, h2, h3⟩ := drawPairs_get h.2 k b (by simpa using hb)
      refine ⟨m', by simpa using h1, fun p hp => h2 p (List.mem_cons_of_mem _ hp), fun l a hl ha => ?_⟩
      cases l with
      | zero =>
        simp at ha; subst ha
        exact h2 (x, j) (List.mem_cons_self ..)
      | succ l =>
        have := h3 l a (by omega) (by simpa using ha)
        rwa [show j + (l + 1) = j + 1 + l by omega]

/-! ### Those that are still to come -/
def still (n : Nat) (listed : Array Bool) : List Nat := (List.range n).filter fun i => !listed.getD i true
theorem mem_still {n i : Nat} {listed : Array Bool} : i ∈ still n listed ↔ i < n ∧ listed.getD i true = false := by simp [still]
theorem still_set {n j : Nat} {listed : Array Bool} {pre post : List Nat} (hs : listed.size = n) (h : still n listed = pre ++ j :: post) : still n (listed.setIfInBounds j true) = pre ++ post := by
  have hj : j < n := (mem_still.1 (h ▸ List.mem_append_right _ (List.mem_cons_self ..))).1
  have e1 : still n (listed.setIfInBounds j true) = (still n listed).filter fun i => decide (i ≠ j) := by
    unfold still
    rw [List.filter_filter]
    refine List.filter_congr fun i hi => ?_
    have hi' : i < n := by simpa using hi
    by_cases hij : i = j
    · subst hij
      simp [hs, hj]
    · rw [getD_set_ne true (Ne.symm hij)]
      simp [hij]
  have nd : (still n listed).Nodup := List.nodup_range.filter _
  rw [h, List.nodup_append] at nd
  obtain ⟨_, n2, n3⟩ := nd
  rw [List.nodup_cons] at n2
  rw [e1, h, List.filter_append, List.filter_cons, if_neg (by simp)]
  congr 1
  · refine List.filter_eq_self.2 fun i hi => ?_
    simp only [decide_eq_true_eq]
    exact n3 i hi j (List.mem_cons_self ..)
  · refine List.filter_eq_self.2 fun i hi => ?_
    simp only [decide_eq_true_eq]
    rintro rfl
    exact n2.1 hi
theorem still_split {n j : Nat} {listed : Array Bool} (h : j ∈ still n listed) : ∃ pre post, still n listed = pre ++ j :: post ∧ ∀ i ∈ pre, i < j := by
  obtain ⟨pre, post, hp⟩ := List.append_of_mem h
  refine ⟨pre, post, hp, fun i hi => ?_⟩
  have hs : (still n listed).Pairwise (· < ·) := (List.pairwise_lt_range).filter _
  rw [hp, List.pairwise_append] at hs
  exact hs.2.2 i hi j (List.mem_cons_self ..)

section
variable {P : Program} {lim : Option Nat} {B : Nat} {F : List Nat} {nt : Nat} {T : Orc} {pure : FuncId → Bool}

theorem okRows_get : ∀ {ops : Array Oper} {os : List Oper} {rs : List Row}, okRows P nt ops os rs = true → os.length = rs.length ∧ ∀ (j : Nat) (o : Oper) (r : Row), os[j]? = some o → rs[j]? = some r → okRow P nt ops o r = true
  | ops, [], [], _ => ⟨rfl, fun j o r h => by simp at h⟩
  | ops, [], _ :: _, h => by simp [okRows] at h
  | ops, _ :: _, [], h => by simp [okRows] at h
  | ops, o :: os, r :: rs, h => by
    simp only [okRows, Bool.and_eq_true] at h
    obtain ⟨h1, h2⟩ := okRows_get h.2
    refine ⟨by simp [h1], fun j o' r' ho hr => ?_⟩
    cases j with
    | zero => simp at ho hr; subst ho; subst hr; exact h.1
    | succ j => exact h2 j o' r' (by simpa using ho) (by simpa using hr)
theorem lvs_mem : ∀ {rs : List Row} {r : Row}, r ∈ rs → lvIn (lvs rs) r
  | [], _, h => by cases h
  | x :: rs, r, h => by
    intro hl t ht
    simp only [lvs, List.mem_append]
    rcases List.mem_cons.1 h with rfl | h
    · left
      obtain ⟨xs, hx⟩ := isLv_iff.1 hl
      rw [hx]
      simp [ht]
    · exact .inr (lvs_mem h hl t ht)

structure Drawn (pure : FuncId → Bool) (conf : List (Nat × Nat × Nat × Nat)) (free fps : List Nat) (ops : Array Oper) (rs : List Row) : Prop where
  back : ∀ (i : Nat) (o : Oper), ops[i]? = some o → ∀ e ∈ o.after, Region.binds .any e = true → e.on < i
  sconf : ∀ t n u m, (t, n, u, m) ∈ conf → stable t rs = true ∧ stable u rs = true
  sfree : ∀ t ∈ free, stable t rs = true
  sfps : ∀ t ∈ fps, stable t rs = true
  dcalm : ∀ r ∈ rs, calmRow (lvs rs) r = true
  pairs : drawPairs pure conf free fps rs 0 [] (ancs ops.toList []) = true
theorem drawn_of {conf : List (Nat × Nat × Nat × Nat)} {free fps : List Nat} {ops : Array Oper} {rs : List Row} (h : drawOK pure conf free fps ops.toList rs = true) : Drawn pure conf free fps ops rs := by
  unfold drawOK at h
  simp only [Bool.and_eq_true, List.all_eq_true] at h
  obtain ⟨⟨⟨⟨⟨h1, h2⟩, h3⟩, h4⟩, h5⟩, h6⟩ := h
  refine ⟨fun i o ho e he hb => ?_, fun t n u m hm => by simpa using h2 _ hm, h3, h4, h5, h6⟩
  have := h1 (o, i) (by
    rw [List.mem_zipIdx_iff_getElem?]
    simpa using ho) e (by simpa using he)
  rw [hb] at this
  simpa using this

/-- **A region whose order is drawn.** -/
theorem draw_loop (hT : CallOK P T) (hO : OrcOK T pure) {conf : List (Nat × Nat × Nat × Nat)} {free fps : List Nat} {ops : Array Oper} {rs : List Row} {Q : Exit → Act → World → Prop} {E0 : Env} {HE : Heap}
    (hok : okRows P nt ops ops.toList rs = true) (hd : Drawn pure conf free fps ops rs) (hE0 : (keys E0).Nodup) :
    ∀ (fuel : Nat) (listed : Array Bool) {e E : Env} {H : Heap} {a : Act} {w : World} {S : Nat → Nat → Prop} {bl : List Nat}, listed.size = ops.size →
      (∀ k, listed.getD k false = true → ∀ i, ((ancs ops.toList []).getD k 0).testBit i = true → listed.getD i false = true) → (still ops.size listed).length ≤ fuel →
      rops T lim ((still ops.size listed).map fun i => rs.getD i default) e H = some (E, HE) → LInv (lvs rs) e → Coming T pure (lvs rs) free fps conf ((still ops.size listed).map fun i => rs.getD i default) E → EEq E E0 →
      ER lim B F nt S bl e H a w → (∀ a' w' S' bl', ER lim B F nt S' bl' E0 HE a' w' → Ext lim B F S bl H w S' bl' HE w' → Q .normal a' w') → wpAny P .any ops Q fuel listed a w := by
  obtain ⟨hlen, hrow⟩ := okRows_get hok
  have hlen' : rs.length = ops.size := by rw [← hlen]; simp
  intro fuel
  -- none is ready: all were carried out
  have none_ready : ∀ (listed : Array Bool), listed.size = ops.size → Region.ready .any ops listed = [] → still ops.size listed = [] := by
    intro listed hs hr
    cases hst : still ops.size listed with
    | nil => rfl
    | cons j l =>
      exfalso
      have hj : j ∈ still ops.size listed := by rw [hst]; exact List.mem_cons_self ..
      obtain ⟨j1, j2⟩ := mem_still.1 hj
      have hsort : (still ops.size listed).Pairwise (· < ·) := (List.pairwise_lt_range).filter _
      have : j ∈ Region.ready .any ops listed := by
        refine mem_ready.2 ⟨j2, ops[j], Array.getElem?_eq_getElem j1, fun e he hb => ?_⟩
        have hlt := hd.back j _ (Array.getElem?_eq_getElem j1) e he hb
        by_cases hl : listed.getD e.on true = false
        · have : e.on ∈ still ops.size listed := mem_still.2 ⟨by omega, hl⟩
          rw [hst] at this hsort
          rcases List.mem_cons.1 this with k | k
          · omega
          · have := (List.pairwise_cons.1 hsort).1 _ k
            omega
        · have h2 : e.on < listed.size := by omega
          simp only [Bool.not_eq_false] at hl
          simpa [Array.getD_eq_getD_getElem?, h2] using hl
      rw [hr] at this
      cases this
  have fin : ∀ {listed : Array Bool} {e E : Env} {H : Heap} {a : Act} {w : World} {S : Nat → Nat → Prop} {bl : List Nat}, still ops.size listed = [] → rops T lim ((still ops.size listed).map fun i => rs.getD i default) e H = some (E, HE) → EEq E E0 →
      ER lim B F nt S bl e H a w → (∀ a' w' S' bl', ER lim B F nt S' bl' E0 HE a' w' → Ext lim B F S bl H w S' bl' HE w' → Q .normal a' w') → Q .normal a w := by
    intro listed e E H a w S bl hst hr hE hER hQ
    rw [hst] at hr
    cases hr
    exact hQ _ _ _ _ (hER.eeq hE0 hE) (Ext.refl _ _ _ _ _ _ _)
  induction fuel with
  | zero =>
    intro listed e E H a w S bl hs hcl hf hr hL hc hE hER hQ
    have hst : still ops.size listed = [] := List.length_eq_zero_iff.1 (by omega)
    refine ⟨?_, fin hst hr hE hER hQ⟩
    cases hrd : Region.ready .any ops listed with
    | nil => rfl
    | cons j l =>
      have : j ∈ Region.ready .any ops listed := by rw [hrd]; exact List.mem_cons_self ..
      obtain ⟨k1, o, k2, _⟩ := mem_ready.1 this
      have : j ∈ still ops.size listed := mem_still.2 ⟨(Array.getElem?_eq_some_iff.1 k2).1, k1⟩
      rw [hst] at this
      cases this
  | succ fuel ih =>
    intro listed e E H a w S bl hs hcl hf hr hL hc hE hER hQ
    refine ⟨fun hrd => fin (none_ready listed hs hrd) hr hE hER hQ, fun j hj => ?_⟩
    obtain ⟨j1, o, ho, hed⟩ := mem_ready.1 hj
    have hjn : j < ops.size := (Array.getElem?_eq_some_iff.1 ho).1
    obtain ⟨pre, post, hp, hlt⟩ := still_split (mem_still.2 ⟨hjn, j1⟩)
    have hrj : rs[j]? = some (rs.getD j default) := by rw [List.getD_eq_getElem?_getD, List.getElem?_eq_getElem (by omega)]; rfl
    obtain ⟨m, hm, _, hpair⟩ := drawPairs_get hd.pairs j _ hrj
    have hback := hd.back j o ho
    have hanc : ∀ i, m.testBit i = true → listed.getD i false = true := fun i hi => by
      obtain ⟨x, hx, hb, k⟩ := ancs_bit hm (by simpa using ho) hback hi
      rcases k with rfl | k
      · exact hed x hx hb
      · exact hcl x.on (hed x hx hb) i k
    have hind : ∀ x ∈ pre.map (fun i => rs.getD i default), indep pure conf free fps x (rs.getD j default) = true := fun x hx => by
      obtain ⟨i, hi, rfl⟩ := List.mem_map.1 hx
      have hi2 : i ∈ still ops.size listed := by rw [hp]; exact List.mem_append_left _ hi
      obtain ⟨i1, i2⟩ := mem_still.1 hi2
      have hri : rs[i]? = some (rs.getD i default) := by rw [List.getD_eq_getElem?_getD, List.getElem?_eq_getElem (by omega)]; rfl
      refine (hpair i _ (hlt i hi) hri).resolve_left fun k => ?_
      rw [Nat.zero_add] at k
      have := hanc i k
      have h2 : i < listed.size := by omega
      simp [Array.getD_eq_getD_getElem?, h2] at this i2
      rw [this] at i2
      cases i2
    rw [hp, List.map_append, List.map_cons] at hr hc
    obtain ⟨f1, G1, E', b1, b2, b3⟩ := bubble hO _ hr hER.nodup hL hc hind fun t n hpl => .inr fun v hv => by
      have := (hER.slot hv).1
      exact this.rb (by rw [← hER.st.len]; exact Nat.le_refl _)
    have hrem : still ops.size (listed.setIfInBounds j true) = pre ++ post := still_set hs hp
    have hcj := hc.ccalm (rs.getD j default) (List.mem_append_right _ (List.mem_cons_self ..))
    refine sim_op1 hT ho (hrow j o _ (by simpa using ho) hrj) b1 hER fun a' w' S' bl' g x => ?_
    refine ih (listed.setIfInBounds j true) (e := f1) (E := E') (H := G1) (by simpa using hs) (fun k hk i hi => ?_) ?_ ?_ (op1_LInv hO hL hcj.1 hcj.2 b1) ?_ (b3.symm.trans hE) g fun a'' w'' S'' bl'' g' x' => hQ _ _ _ _ g' (x.trans x')
    · refine getD_set_true ?_
      by_cases hkj : j = k
      · subst hkj
        rw [List.getD_eq_getElem?_getD, hm, Option.getD_some] at hi
        exact hanc i hi
      · rw [getD_set_ne false hkj] at hk
        exact hcl k hk i hi
    · rw [hrem]
      rw [hp] at hf
      simp only [List.length_append, List.length_cons] at hf ⊢
      omega
    · rw [hrem, List.map_append]; exact b2
    · rw [hrem, List.map_append]
      exact (hc.subl ((List.Sublist.refl _).append (List.sublist_cons_self ..))).eeq b3

theorem ER.drew {S : Nat → Nat → Prop} {bl : List Nat} {e : Env} {H : Heap} {a : Act} {w : World} (h : ER lim B F nt S bl e H a w) : ER lim B F nt S bl e H a { w with drawn := w.drawn + 1 } ∧ Ext lim B F S bl H w S bl H { w with drawn := w.drawn + 1 } :=
  ⟨⟨h.nodup, h.bnd, h.st.drew.1, h.size, h.defers, h.room⟩, h.st.drew.2⟩
theorem sim_draw (hT : CallOK P T) (hO : OrcOK T pure) (hm : P.follows .mixedOrders = true) {id : Nat} {conf : List (Nat × Nat × Nat × Nat)} {free fps : List Nat} {ops : Array Oper} {rs : List Row} {Q : Exit → Act → World → Prop} {e E : Env} {H HE : Heap} {a : Act} {w : World} {S : Nat → Nat → Prop} {bl : List Nat}
    (hok : okRows P nt ops ops.toList rs = true) (hd : drawOK pure conf free fps ops.toList rs = true) (hr : rops T lim rs e H = some (E, HE)) (hc : calm e = true) (h1 : confOK conf E = true) (h2 : freeOK free E = true) (h3 : fpsOK fps E = true)
    (h : ER lim B F nt S bl e H a w) (hQ : ∀ a' w' S' bl', ER lim B F nt S' bl' E HE a' w' → Ext lim B F S bl H w S' bl' HE w' → Q .normal a' w') : (Code.region id ops true).wp P Q a w := by
  refine wp_region_any hm ?_
  obtain ⟨g, x⟩ := h.drew
  have hD := drawn_of hd
  have hlen : ops.size = rs.length := by rw [← (okRows_get hok).1]; simp
  have hst : still ops.size (Array.replicate ops.size false) = List.range ops.size := by
    unfold still
    refine List.filter_eq_self.2 fun i hi => ?_
    have : i < ops.size := by simpa using hi
    simp [Array.getD_eq_getD_getElem?, this]
  have hmap : (List.range ops.size).map (fun i => rs.getD i default) = rs := by
    refine List.ext_getElem (by simp [hlen]) fun i hi1 hi2 => ?_
    simp [List.getD_eq_getElem?_getD, hi2]
  refine draw_loop hT hO hok hD (rops_nodup hr h.nodup) ops.size _ (e := e) (E := E) (H := H) (by simp) (fun k hk i _ => ?_) (by rw [hst]; simp) (by rw [hst, hmap]; exact hr) (fun t v _ hv => (calm_get h.nodup).1 hc t v hv)
    (by rw [hst, hmap]; exact ⟨fun r hr => ⟨hD.dcalm r hr, lvs_mem hr⟩, h1, h2, h3, hD.sconf, hD.sfree, hD.sfps⟩) (EEq.refl _) g fun a' w' S' bl' g' x' => hQ _ _ _ _ g' (x.trans x')
  by_cases hkn : k < ops.size
  · simp [Array.getD_eq_getD_getElem?, hkn] at hk
  · simp [Array.getD_eq_getD_getElem?, hkn] at hk
end
end Go.Abs
