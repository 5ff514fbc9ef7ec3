/-
  Writing a cell of an object; taking its leave to append; new slices by value; appending in place.
-/
import Derived.Test.YtcfefgeheibadaaAbsU
namespace Go.Abs
open Go.RowKit (Below)
set_option linter.unusedVariables false

theorem ctips_append (w : World) (b : Nat) : ∀ (A C : List V) (k : Nat), ctips w (A ++ C) b k = ctips w A b k ++ ctips w C b (k + A.length)
  | [], C, k => by simp [ctips]
  | v :: A, C, k => by
    simp only [List.cons_append, ctips, ctips_append w b A C (k + 1), List.append_assoc, List.length_cons]
    rw [show k + 1 + A.length = k + (A.length + 1) by omega]
theorem ctips_cong {w w' : World} {b : Nat} : ∀ (A : List V) (k : Nat), (∀ j, j < A.length → w'.cell? ⟨b, k + j, none⟩ = w.cell? ⟨b, k + j, none⟩) → ctips w' A b k = ctips w A b k
  | [], _, _ => rfl
  | v :: A, k, h => by
    have h0 := h 0 (by simp)
    simp only [Nat.add_zero] at h0
    have h2 : ∀ j, j < A.length → w'.cell? ⟨b, k + 1 + j, none⟩ = w.cell? ⟨b, k + 1 + j, none⟩ := fun j hj => by
      have := h (j + 1) (by simpa using hj)
      rwa [show k + 1 + j = k + (j + 1) by omega]
    simp only [ctips, h0, ctips_cong A (k + 1) h2]
theorem split_at {α : Type} {l : List α} {i : Nat} {x : α} (h : l[i]? = some x) : ∃ A C, l = A ++ x :: C ∧ A.length = i := by
  obtain ⟨hi, hx⟩ := List.getElem?_eq_some_iff.1 h
  refine ⟨l.take i, l.drop (i + 1), ?_, by simp; omega⟩
  rw [← hx, List.getElem_cons_drop, List.take_append_drop]
theorem set_split {α : Type} (A C : List α) (x y : α) : (A ++ x :: C).set A.length y = A ++ y :: C := by
  simp [List.set_append]

namespace St
variable {lim : Option Nat} {B : Nat} {F F0 : List Nat} {S : Nat → Nat → Prop} {bl : List Nat} {vals : List (V × Value)} {H : Heap} {w : World}

/-- A cell of an object is another one. -/
theorem repl (h : St lim B F0 S bl vals H w) {id o b : Nat} {cs : List V} {old v : V} {cold c : Value} {w' : World}
    (hH : H[id]? = some cs) (ho : cs[o]? = some old) (hb : bl[id]? = some b) (hcold : w.cell? ⟨b, o, none⟩ = some cold)
    (hval : ∀ p ∈ vals, Rep S bl w' p.1 p.2) (size : w'.heap.size = w.heap.size) (others : ∀ b', b' ≠ b → w'.heap[b']? = w.heap[b']?)
    (blkb : ∀ carr e f, w.heap[b]? = some (.cells carr e f) → w'.heap[b]? = some (.cells (carr.setIfInBounds o c) e f))
    (hs : v.single = true) (hr : Rep S bl w v c) (hF : ∀ x, F.count x + (blks (tips1 v c)).count x ≤ F0.count x + (blks (tips1 old cold)).count x)
    (ht : ∀ t ∈ tips1 v c, TipOK S w t ∧ B ≤ t.blk ∧ t.blk ≠ b) (hl : ∀ l, lim = some l → l ≤ id) :
    St lim B F S bl vals (H.set id (cs.set o v)) w' := by
  obtain ⟨HA, HC, rfl, hHA⟩ := split_at hH
  obtain ⟨bA, bC, rfl, hbA⟩ := split_at hb
  obtain ⟨A, C, rfl, hA⟩ := split_at ho
  have hlen := h.len
  have hAl : HA.length = bA.length := by omega
  have hCl : HC.length = bC.length := by simp at hlen; omega
  have hbm : b ∈ bA ++ b :: bC := by simp
  have hlive : ∀ (i b' : Nat) cs', i ≠ id → (HA ++ (A ++ old :: C) :: HC)[i]? = some cs' → (bA ++ b :: bC)[i]? = some b' → cs' = [] ∨ b' ≠ b := by
    intro i b' cs' hii hi hbi
    by_cases e : b' = b
    · subst e
      exact .inl ((h.sep i id b' cs' _ hii hbi hb hi hH).resolve_right (by simp))
    · exact .inr e
  have hSb : ∀ o', ¬ S b o' := fun o' x => (h.stab b o' x).1 hbm
  have k : Keeps S w S w' := ⟨fun _ _ x => x, fun b' o' x => cell_same (others b' (by rintro rfl; exact hSb o' x)) o', fun b' n x => by
    by_cases e : b' = b
    · subst e
      obtain ⟨carr, t, f, x1, x2⟩ := x
      exact ⟨_, t, f, blkb carr t f x1, by simpa using x2⟩
    · exact x.same (others b' e)⟩
  obtain ⟨⟨carr, e, lo, hi, hwb, hsz, hfz⟩, hrep⟩ := h.obj id _ b hH hb
  have hwb' := blkb carr e (lo, hi) hwb
  have hcells : ∀ j, j ≠ o → w'.cell? ⟨b, j, none⟩ = w.cell? ⟨b, j, none⟩ := fun j hj => by
    rw [cell_of hwb, cell_of hwb', Array.getElem?_setIfInBounds_ne (Ne.symm hj)]
  have hoc : o < carr.size := by rw [cell_of hwb] at hcold; exact (Array.getElem?_eq_some_iff.1 hcold).1
  have hcell : w'.cell? ⟨b, o, none⟩ = some c := by rw [cell_of hwb', Array.getElem?_setIfInBounds_self_of_lt hoc]
  have e0 : htips w (HA ++ (A ++ old :: C) :: HC) (bA ++ b :: bC) = htips w HA bA ++ ((ctips w A b 0 ++ (tips1 old cold ++ ctips w C b (o + 1))) ++ htips w HC bC) := by
    rw [htips_append _ _ _ _ _ hAl]
    simp only [htips, ctips_append, ctips, hA, Nat.zero_add, hcold, Option.getD_some]
  have e1 : htips w' ((HA ++ (A ++ old :: C) :: HC).set id ((A ++ old :: C).set o v)) (bA ++ b :: bC) = htips w HA bA ++ ((ctips w A b 0 ++ (tips1 v c ++ ctips w C b (o + 1))) ++ htips w HC bC) := by
    rw [← hA, ← hHA, set_split, set_split, htips_append _ _ _ _ _ hAl]
    simp only [htips, ctips_append, ctips, hA, Nat.zero_add, hcell, Option.getD_some]
    have q1 : ∀ j, j < A.length → w'.cell? ⟨b, 0 + j, none⟩ = w.cell? ⟨b, 0 + j, none⟩ := fun j hj => by rw [Nat.zero_add]; exact hcells j (by omega)
    have q2 : ∀ j, j < C.length → w'.cell? ⟨b, o + 1 + j, none⟩ = w.cell? ⟨b, o + 1 + j, none⟩ := fun j hj => hcells (o + 1 + j) (by omega)
    have z1 : htips w' HA bA = htips w HA bA := htips_live HA bA fun i cs' b' hi hbi => by
      have hl := (List.getElem?_eq_some_iff.1 hi).1
      exact (hlive i b' cs' (by omega) (by rw [List.getElem?_append_left hl]; exact hi) (by rw [List.getElem?_append_left (by omega)]; exact hbi)).imp (fun q => q) (others b')
    have z2 : htips w' HC bC = htips w HC bC := htips_live HC bC fun i cs' b' hi hbi => by
      refine (hlive (HA.length + 1 + i) b' cs' (by omega) ?_ ?_).imp (fun q => q) (others b')
      · rw [List.getElem?_append_right (by omega), show HA.length + 1 + i - HA.length = i + 1 by omega, List.getElem?_cons_succ]; exact hi
      · rw [List.getElem?_append_right (by omega), show HA.length + 1 + i - bA.length = i + 1 by omega, List.getElem?_cons_succ]; exact hbi
    rw [z1, z2, ctips_cong A 0 q1, ctips_cong C (o + 1) q2]
  have hne : ∀ t, (t ∈ vtips vals ∨ t ∈ htips w (HA ++ (A ++ old :: C) :: HC) (bA ++ b :: bC)) → t.blk ≠ b := by
    intro t ht' e
    have := h.nodup b
    have hbc : ind (bA ++ b :: bC) b = 1 := ind_mem hbm
    rcases ht' with ht' | ht'
    · have : 1 ≤ (blks (vtips vals)).count b := mem_count (List.mem_map.2 ⟨t, ht', e⟩); omega
    · have : 1 ≤ (blks (htips w (HA ++ (A ++ old :: C) :: HC) (bA ++ b :: bC))).count b := mem_count (List.mem_map.2 ⟨t, ht', e⟩); omega
  refine ⟨hval, by simp [h.len], ?_, ?_, ?_, ?_, ?_, ?_, ?_⟩
  · intro i cs' b' hi hbi
    by_cases hii : i = id
    · subst hii
      rw [hb] at hbi
      cases hbi
      rw [List.getElem?_set_self (by rw [← hHA]; simp)] at hi
      cases hi
      refine ⟨⟨_, e, lo, hi, hwb', by simpa using hsz, by simpa using hfz⟩, fun j u hj => ?_⟩
      by_cases hjo : j = o
      · subst hjo
        rw [List.getElem?_set_self (by rw [← hA]; simp)] at hj
        cases hj
        exact ⟨hs, c, hcell, Rep.mono k (fun _ _ e => e) v c (V.noVia_of_single hs) hr⟩
      · rw [List.getElem?_set_ne (Ne.symm hjo)] at hj
        obtain ⟨a1, d, a2, a3⟩ := hrep j u hj
        exact ⟨a1, d, by rw [hcells j hjo]; exact a2, Rep.mono k (fun _ _ e => e) u d (V.noVia_of_single a1) a3⟩
    · rw [List.getElem?_set_ne (Ne.symm hii)] at hi
      rcases hlive i b' cs' hii hi hbi with rfl | hne'
      · by_cases e' : b' = b
        · subst e'
          exact ⟨⟨_, e, lo, _, hwb', by simp, by simpa using hfz⟩, fun j u hj => by simp at hj⟩
        · exact (h.obj i [] b' hi hbi).mono k (fun _ _ e => e) (others b' e')
      · exact (h.obj i cs' b' hi hbi).mono k (fun _ _ e => e) (others b' hne')
  · intro x
    have := h.nodup x
    have hFx := hF x
    rw [e1]
    rw [e0] at this
    simp only [blks, List.map_append, List.count_append] at this hFx ⊢
    omega
  · intro t ht'
    rw [e1] at ht'
    have hold : (t ∈ vtips vals ∨ t ∈ htips w (HA ++ (A ++ old :: C) :: HC) (bA ++ b :: bC)) ∨ t ∈ tips1 v c := by
      rw [e0]
      simp only [List.mem_append] at ht' ⊢
      rcases ht' with h | h | (h | h | h) | h
      · exact .inl (.inl h)
      · exact .inl (.inr (.inl h))
      · exact .inl (.inr (.inr (.inl (.inl h))))
      · exact .inr h
      · exact .inl (.inr (.inr (.inl (.inr (.inr h)))))
      · exact .inl (.inr (.inr (.inr h)))
    rcases hold with hold | hold
    · exact ⟨(h.tip t hold).1.mono (others _ (hne t hold)) fun _ x => x, (h.tip t hold).2⟩
    · obtain ⟨a1, a2, a3⟩ := ht t hold
      exact ⟨a1.mono (others _ a3) fun _ x => x, a2⟩
  · intro b' o' x
    obtain ⟨a1, a2⟩ := h.stab b' o' x
    exact ⟨a1, by rw [k.cell b' o' x]; exact a2⟩
  · intro b' hb'
    rcases hb' with hb' | hb'
    · have hx := hF b'
      have := mem_count hb'
      by_cases h0 : b' ∈ F0
      · have := h.base b' (.inl h0); exact ⟨this.1, by rw [size]; exact this.2⟩
      · rw [count_zero_of h0] at hx
        have hm : b' ∈ blks (tips1 old cold) := count_mem (by omega)
        obtain ⟨t, ht1, rfl⟩ := List.mem_map.1 hm
        have := h.tip t (.inr (by rw [e0]; simp [ht1]))
        exact ⟨this.2, by rw [size]; exact this.1.lt⟩
    · have := h.base b' (.inr hb'); exact ⟨this.1, by rw [size]; exact this.2⟩
  · intro l hl'
    obtain ⟨r1, r2, r3⟩ := h.refs l hl'
    refine ⟨by simpa using r1, fun i cs' hil hi => ?_, r3⟩
    have := hl l hl'
    rw [List.getElem?_set_ne (by omega)] at hi
    exact r2 i cs' hil hi
  · have g : ∀ (i : Nat) cs', ((HA ++ (A ++ old :: C) :: HC).set id ((A ++ old :: C).set o v))[i]? = some cs' → ∃ ds', (HA ++ (A ++ old :: C) :: HC)[i]? = some ds' ∧ (ds' = [] → cs' = []) := by
      intro i cs' hi
      by_cases hii : i = id
      · subst hii
        exact ⟨_, hH, fun e => by simp at e⟩
      · rw [List.getElem?_set_ne (Ne.symm hii)] at hi
        exact ⟨_, hi, fun e => e⟩
    intro i j b' cs' ds' hij hbi hbj hi hj
    obtain ⟨x, x1, x2⟩ := g i cs' hi
    obtain ⟨y, y1, y2⟩ := g j ds' hj
    exact (h.sep i j b' x y hij hbi hbj x1 y1).imp x2 y2

theorem setCell_heap (w : World) (b o : Nat) (c : Value) : (w.setCell ⟨b, o, none⟩ c).heap.size = w.heap.size ∧ (∀ b', b' ≠ b → (w.setCell ⟨b, o, none⟩ c).heap[b']? = w.heap[b']?) ∧
    ∀ carr e f, w.heap[b]? = some (.cells carr e f) → (w.setCell ⟨b, o, none⟩ c).heap[b]? = some (.cells (carr.setIfInBounds o c) e f) := by
  refine ⟨by simp [World.setCell], fun b' hb' => ?_, fun carr e f hb => ?_⟩
  · simp only [World.setCell, Array.getElem?_modify]; rw [if_neg (Ne.symm hb')]
  · simp only [World.setCell, Array.getElem?_modify, if_true, hb, Option.map_some]
    rfl
theorem below_setCell {B : Nat} {w : World} {b o : Nat} (c : Value) (hB : B ≤ b) : Below B w (w.setCell ⟨b, o, none⟩ c) :=
  ⟨rfl, rfl, rfl, by simp [World.setCell], fun k hk => (setCell_heap w b o c).2.1 k (by omega)⟩

/-- **A store into an object.** -/
theorem setObj {id o b : Nat} {v : V} {c : Value} (h : St lim B (F ++ blks (tips1 v c)) S bl vals H w) (hv : ∀ p ∈ vals, p.1.noVia = true) (hg : (hget H id o).isSome = true) (hb : bl[id]? = some b)
    (hs : v.single = true) (hr : Rep S bl w v c) (ht : ∀ t ∈ tips1 v c, TipOK S w t) (hl : mayW lim id (v.rb ·) = true) :
    St lim B F S bl vals (hset H id o v) (w.setCell ⟨b, o, none⟩ c) ∧ Ext lim B F S bl H w S bl (hset H id o v) (w.setCell ⟨b, o, none⟩ c) := by
  obtain ⟨old, hold⟩ := Option.isSome_iff_exists.1 hg
  obtain ⟨cs, hH, ho⟩ := Option.bind_eq_some_iff.1 (show (H[id]?).bind (·[o]?) = some old from hold)
  obtain ⟨_, cold, hcold, _⟩ := h.get hold hb
  obtain ⟨a1, a2, a3⟩ := setCell_heap w b o c
  have hbm := List.mem_of_getElem? hb
  have hSb : ∀ o', ¬ S b o' := fun o' x => (h.stab b o' x).1 hbm
  have k : Keeps S w S (w.setCell ⟨b, o, none⟩ c) := ⟨fun _ _ x => x, fun b' o' x => cell_same (a2 b' (by rintro rfl; exact hSb o' x)) o', fun b' n x => by
    by_cases e : b' = b
    · subst e
      obtain ⟨carr, t, f, x1, x2⟩ := x
      exact ⟨_, t, f, a3 carr t f x1, by simpa using x2⟩
    · exact x.same (a2 b' e)⟩
  have hF : ∀ x ∈ F ++ blks (tips1 v c), x ≠ b := by
    rintro x hx rfl
    have h1 := h.nodup x
    have h2 := mem_count hx
    have h3 := ind_mem hbm
    omega
  have hset' : hset H id o v = H.set id (cs.set o v) := by simp [hset, hH]
  rw [hset']
  refine ⟨h.repl hH ho hb hcold (fun p hp => Rep.mono k (fun _ _ e => e) _ _ (hv p hp) (h.rep p hp)) a1 a2 a3 hs hr (fun x => by simp only [List.count_append]; omega)
    (fun t ht' => ⟨ht t ht', (h.base t.blk (.inl (List.mem_append_right _ (List.mem_map.2 ⟨t, ht', rfl⟩)))).1, hF _ (List.mem_append_right _ (List.mem_map.2 ⟨t, ht', rfl⟩))⟩) ?_,
    ⟨k, fun x hx => ⟨a2 x (hF x (List.mem_append_left _ hx)), fun _ y => y⟩, below_setCell c (h.base b (.inr hbm)).1, fun _ _ e => e, by simp, ?_⟩⟩
  · rintro l rfl
    simpa only [mayW, decide_eq_true_eq] using hl
  · rintro l rfl
    simp only [mayW, decide_eq_true_eq] at hl
    refine ⟨fun i b' hi hb' => a2 b' ?_, ?_⟩
    · rintro rfl
      exact (h.refs l rfl).2.2 i id b' hi hl hb' hb
    · rw [List.take_set_of_le (by omega)]

/-- **The leave to append goes from an object's cell to whoever asks.** -/
theorem unflag {id o b : Nat} {s : V} {c : Value} (h : St lim B F S bl vals H w) (hg : hget H id o = some s) (hb : bl[id]? = some b) (hc : w.cell? ⟨b, o, none⟩ = some c)
    (hl : mayW lim id (fun _ => true) = true) :
    St lim B F S bl ((s, c) :: vals) (hset H id o s.dis1) w ∧ Ext lim B F S bl H w S bl (hset H id o s.dis1) w := by
  obtain ⟨cs, hH, ho⟩ := Option.bind_eq_some_iff.1 (show (H[id]?).bind (·[o]?) = some s from hg)
  obtain ⟨hs, c', hc', hr⟩ := h.get hg hb
  rw [hc] at hc'
  cases hc'
  have hset' : hset H id o s.dis1 = H.set id (cs.set o s.dis1) := by simp [hset, hH]
  rw [hset']
  have htip : tips s c = tips1 s c := by cases s <;> first | rfl | cases hs
  have h1 : St lim B (F ++ blks (tips1 s c)) S bl vals (H.set id (cs.set o s.dis1)) w := by
    refine h.repl hH ho hb hc (fun p hp => h.rep p hp) rfl (fun _ _ => rfl) (fun carr e f hw => ?_) (V.dis1_single hs) hr.dis1 (fun x => by simp only [tips1_dis1, blks, List.map_nil, List.count_nil, List.count_append]; omega)
      (fun t ht => by rw [tips1_dis1] at ht; cases ht) (fun l hl' => by subst hl'; simpa only [mayW, decide_eq_true_eq] using hl)
    rw [hw]
    rw [cell_of hw] at hc
    congr
    apply Array.ext
    · simp
    · intro i h1 h2
      rw [Array.getElem_setIfInBounds]
      split
      · rename_i e; subst e; exact ((Array.getElem?_eq_some_iff.1 hc).2)
      · rfl
  refine ⟨?_, ⟨Keeps.refl _ _, fun _ _ => ⟨rfl, fun _ x => x⟩, Below.refl _ _, fun _ _ e => e, by simp, ?_⟩⟩
  · refine St.add (us := [(s, c)]) (by simpa [vtips, htip] using h1) (fun p hp => ?_) fun t ht => ?_
    · simp at hp; subst hp; exact hr
    · simp only [vtips, htip, List.append_nil] at ht
      obtain ⟨HA, HC, rfl, hHA⟩ := split_at hH
      obtain ⟨bA, bC, rfl, hbA⟩ := split_at hb
      obtain ⟨A, C, rfl, hA⟩ := split_at ho
      have hlen := h.len
      refine (h.tip t (.inr ?_)).1
      rw [htips_append _ _ _ _ _ (by omega)]
      simp only [htips, ctips_append, ctips, hA, Nat.zero_add, hc, Option.getD_some, List.mem_append]
      exact .inr (.inl (.inr (.inl ht)))
  · rintro l rfl
    simp only [mayW, decide_eq_true_eq] at hl
    exact ⟨fun _ _ _ _ => rfl, by rw [List.take_set_of_le hl]⟩
end St
end Go.Abs
