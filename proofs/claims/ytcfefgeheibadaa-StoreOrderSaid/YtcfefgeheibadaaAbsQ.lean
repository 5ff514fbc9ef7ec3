/-
  Each operation of AbsA does what GoSem's does: those that leave the world alone, continued.
-/
import Derived.Test.YtcfefgeheibadaaAbsP
namespace Go.Abs
open Go.RowKit (Below)
set_option linter.unusedVariables false
set_option linter.unusedSimpArgs false

/-- It comes to a value that says r; what may be appended to comes out of the operands. -/
def QuietK (P : Program) (B : Nat) (S : Nat → Nat → Prop) (bl : List Nat) (w : World) (vals : List (V × Value)) (r : V) (s : Sem Value) : Prop :=
  ∃ c, s.run P w = .ok c w ∧ Rep S bl w r c ∧ (∀ t ∈ tips r c, TipOK S w t ∧ B ≤ t.blk) ∧ ∀ x, (blks (tips r c)).count x ≤ (blks (vtips vals)).count x

section
variable {P : Program} {lim : Option Nat} {B : Nat} {F : List Nat} {S : Nat → Nat → Prop} {bl : List Nat} {vals : List (V × Value)} {H : Heap} {w : World}

theorem Quiet.k {r : V} {s : Sem Value} (h : Quiet P S bl w r s) : QuietK P B S bl w vals r s := by
  obtain ⟨c, h1, h2, h3⟩ := h
  exact ⟨c, h1, h2, (by rw [h3]; intro t ht; cases ht), (by rw [h3]; intro x; simp [blks])⟩
theorem St.res (h : St lim B F S bl vals H w) {r : V} {c : Value} (hr : Rep S bl w r c) (ht : ∀ t ∈ tips r c, TipOK S w t ∧ B ≤ t.blk) (hc : ∀ x, (blks (tips r c)).count x ≤ (blks (vtips vals)).count x) : St lim B F S bl [(r, c)] H w := by
  refine ⟨?_, h.len, h.obj, fun x => ?_, fun t k => ?_, h.stab, h.base, h.refs, h.sep⟩
  · intro p hp; simp at hp; subst hp; exact hr
  · have := h.nodup x; have := hc x; simp only [vtips, List.append_nil]; omega
  · simp only [vtips, List.append_nil] at k; exact k.elim (ht t) fun y => h.tip t (.inr y)
theorem QuietK.good {r : V} {s : Sem Value} (h : St lim B F S bl vals H w) (q : QuietK P B S bl w vals r s) : Good P lim B F S bl H w r H ((do pure (.value (← s)) : Sem Next).run P w) := by
  obtain ⟨c, h1, h2, h3, h4⟩ := q
  exact ⟨c, w, S, bl, .inl (by simp only [Sem.run_bind, h1, Result.andThen_ok, Sem.run_pure]), h.res h2 h3 h4, Ext.refl _ _ _ _ _ _ _⟩

/-! ### Addresses -/
theorem q_fa {s f off : Nat} {fs : Array Field} {g : Field} {vs : List V} {r : V} {a : Value} (hvs : RepL S bl w vs [a]) (hs : P.underlying s = some (.struct fs)) (hf : fs[f]? = some g) (ho : g.offset = off)
    {i : TypeInfo} (hi : P.info? g.type = some i) (hz : i.size ≠ 0) (h : aFa off vs = some r) : Quiet P S bl w r (Instr.fieldAt s a f) := by
  obtain ⟨p, rfl, h1⟩ := one_inv hvs
  have run : ∀ ad : Addr, (Instr.fieldAt s (.pointer (some ad)) f).run P w = .ok (.pointer (some (ad.add off))) w := by
    intro ad
    have hsz : (Go.sizeOf g.type).run P w = .ok i.size w := run_size (by simp [szIs, hi])
    simp only [Instr.fieldAt, Sem.run_bind, run_und hs, Result.andThen_ok, hf, Instr.sureAddr, Sem.run_pure, fieldPlace, hsz, Sem.run_ite, if_neg hz, ho]
  cases p <;> simp only [aFa] at h <;> cases h
  · obtain ⟨b, hb, rfl⟩ := h1.ptr_inv
    exact ⟨_, run _, by rw [add_none]; simp only [Rep]; exact ⟨b, hb, rfl⟩, rfl⟩
  · obtain ⟨b, o, rfl, hc⟩ := h1.fp_inv
    exact ⟨_, run _, by rw [add_none]; simp only [Rep]; exact ⟨b, o, by rw [Nat.add_assoc], hc⟩, rfl⟩

theorem run_index {t e : TypeId} {sz n cap : Nat} {ad : Addr} {k : IntKind} {i : Int} (ht : P.underlying t = some (.slice e)) (hz : szIs P e sz = true) (hi : 0 ≤ i ∧ i < (n : Int)) :
    (Instr.indexAt t (.slice (some ad) n cap) (.int k i)).run P w = .ok (.pointer (some (ad.add (i.toNat * sz)))) w := by
  simp only [Instr.indexAt, asIntOf, Sem.run_bind, Sem.run_pure, Result.andThen_ok, run_und ht, Sem.run_ite, if_pos hi, run_size hz]
theorem q_ix {t e : TypeId} {sz : Nat} {vs : List V} {r : V} {a b : Value} (hvs : RepL S bl w vs [a, b]) (ht : P.underlying t = some (.slice e)) (hz : szIs P e sz = true) (h : aIx sz vs = some r) :
    Quiet P S bl w r (Instr.indexAt t a b) := by
  obtain ⟨p, q, rfl, h1, h2⟩ := two_inv hvs
  cases p <;> try (simp [aIx] at h; done)
  · rename_i own n cs
    cases q <;> try (simp [aIx] at h; done)
    rename_i k i
    simp only [aIx] at h
    split at h
    · rename_i hi
      cases h
      obtain rfl := h2.int_inv
      simp only [Rep] at h1
      obtain ⟨ad, cap, rfl, hle, hnil, hc⟩ := h1
      cases ad with
      | none => have := (hnil rfl).1; omega
      | some ad =>
        obtain ⟨hsp, hC⟩ := hc ad rfl
        refine ⟨_, run_index ht hz hi, ?_, rfl⟩
        rw [addr_eta (hsp (by omega)), add_none]
        simp only [Rep]
        exact ⟨ad.block, ad.off, rfl, hC⟩
    · cases h
  · rename_i sz' id off n
    cases q <;> try (simp [aIx] at h; done)
    rename_i k i
    simp only [aIx] at h
    split at h
    · rename_i hi
      cases h
      obtain rfl := h2.int_inv
      simp only [Rep] at h1
      obtain ⟨bb, cap, hb, hle, rfl, _⟩ := h1
      refine ⟨_, run_index ht hz hi, ?_, rfl⟩
      rw [add_none]
      simp only [Rep]
      exact ⟨bb, hb, rfl⟩
    · cases h
theorem q_ixa {t e : TypeId} {sz len : Nat} {vs : List V} {r : V} {a b : Value} (hvs : RepL S bl w vs [a, b]) (ht : P.underlying t = some (.array len e)) (hz : szIs P e sz = true) (h : aIxa sz len vs = some r) :
    Quiet P S bl w r (Instr.indexAt t a b) := by
  obtain ⟨p, q, rfl, h1, h2⟩ := two_inv hvs
  have run : ∀ (ad : Addr) (k : IntKind) (i : Int), 0 ≤ i ∧ i < (len : Int) → (Instr.indexAt t (.pointer (some ad)) (.int k i)).run P w = .ok (.pointer (some (ad.add (i.toNat * sz)))) w := by
    intro ad k i hi
    simp only [Instr.indexAt, asIntOf, Sem.run_bind, Sem.run_pure, Result.andThen_ok, run_und ht, Instr.sureAddr, Sem.run_ite, if_pos hi, run_size hz]
  cases p <;> try (simp [aIxa] at h; done)
  all_goals
    cases q <;> try (simp [aIxa] at h; done)
    simp only [aIxa] at h
    split at h
    · rename_i hi
      cases h
      obtain rfl := h2.int_inv
      first
        | (obtain ⟨bb, hb, rfl⟩ := h1.ptr_inv
           exact ⟨_, run _ _ _ hi, by rw [add_none]; simp only [Rep]; exact ⟨bb, hb, rfl⟩, rfl⟩)
        | (obtain ⟨bb, o, rfl, hc⟩ := h1.fp_inv
           exact ⟨_, run _ _ _ hi, by rw [add_none]; simp only [Rep]; exact ⟨bb, o, by rw [Nat.add_assoc], hc⟩, rfl⟩)
    · cases h

/-! ### Reading -/
theorem run_loadAt1 {t : TypeId} {d : TypeDesc} (ht : P.underlying t = some d) (hd : isAggB P t = false) {ad : Addr} {c : Value} (hc : w.cell? ad = some c) : (Instr.loadAt t (.pointer (some ad))).run P w = .ok c w := by
  simp only [Instr.loadAt, Instr.sureAddr, Sem.run_bind, Sem.run_pure, Result.andThen_ok, loadVar, run_isAgg ht, hd, Sem.run_ite, Bool.false_eq_true, if_false, run_load, hc]
theorem q_ld {t : TypeId} {d : TypeDesc} {vs : List V} {r : V} {a : Value} (h : St lim B F S bl vals H w) (hvs : RepL S bl w vs [a]) (ht : P.underlying t = some d) (hd : isAggB P t = false) (hr : aLd H vs = some r) :
    Quiet P S bl w r (Instr.loadAt t a) := by
  obtain ⟨p, rfl, h1⟩ := one_inv hvs
  cases p <;> try (simp [aLd] at hr; done)
  · rename_i id o
    obtain ⟨v, hv, rfl⟩ := Option.map_eq_some_iff.1 (show (hget H id o).map V.dis1 = some r from hr)
    obtain ⟨b, hb, rfl⟩ := h1.ptr_inv
    obtain ⟨hs, c, hc, hrep⟩ := h.get hv hb
    have hcs := V.dis1_single hs
    exact ⟨c, run_loadAt1 ht hd hc, hrep.dis1, (tips_single (.inr trivial) (.inl hcs)).trans (tips1_dis1 _ _)⟩
  · rename_i cs i
    obtain ⟨v, hv, rfl⟩ := Option.map_eq_some_iff.1 (show (cs[i]?).map V.dis1 = some r from hr)
    obtain ⟨b, o, rfl, hC⟩ := h1.fp_inv
    obtain ⟨_, hs, c, hc, hrep⟩ := (RepC_iff cs b o).1 hC i v hv
    exact ⟨c, run_loadAt1 ht hd hc, hrep.dis1, (tips_single (.inr trivial) (.inl (V.dis1_single hs))).trans (tips1_dis1 _ _)⟩
theorem q_lv {t : TypeId} {d : TypeDesc} {vs : List V} {r : V} {a : Value} (h : St lim B F S bl vals H w) (hvs : RepL S bl w vs [a]) (ht : P.underlying t = some d) (hd : isAggB P t = false) (hr : aLv H vs = some r) :
    Quiet P S bl w r (Instr.loadAt t a) := by
  obtain ⟨p, rfl, h1⟩ := one_inv hvs
  cases p <;> try (simp [aLv] at hr; done)
  · rename_i id o
    obtain ⟨v, hv, rfl⟩ := Option.map_eq_some_iff.1 (show (hget H id o).map (viaOf id o) = some r from hr)
    obtain ⟨b, hb, rfl⟩ := h1.ptr_inv
    obtain ⟨hs, c, hc, hrep⟩ := h.get hv hb
    refine ⟨c, run_loadAt1 ht hd hc, ?_, ?_⟩
    · unfold viaOf
      split
      · simp only [Rep] at hrep ⊢
        exact ⟨⟨b, hb, hc⟩, hrep⟩
      · exact hrep.dis1
    · unfold viaOf
      split
      · rfl
      · exact (tips_single (.inr trivial) (.inl (V.dis1_single hs))).trans (tips1_dis1 _ _)
  · rename_i cs i
    obtain ⟨v, hv, rfl⟩ := Option.map_eq_some_iff.1 (show (cs[i]?).map V.dis1 = some r from hr)
    obtain ⟨b, o, rfl, hC⟩ := h1.fp_inv
    obtain ⟨_, hs, c, hc, hrep⟩ := (RepC_iff cs b o).1 hC i v hv
    exact ⟨c, run_loadAt1 ht hd hc, hrep.dis1, (tips_single (.inr trivial) (.inl (V.dis1_single hs))).trans (tips1_dis1 _ _)⟩

/-- Cells of an object, as a row. -/
theorem St.cells (h : St lim B F S bl vals H w) {id o n : Nat} {cs : List V} {b : Nat} (hc : hcells H id o n = some cs) (hb : bl[id]? = some b) :
    cs.length = n ∧ ∃ ds : List Value, RepL S bl w cs ds ∧ (∀ (j : Nat) c, ds[j]? = some c → w.cell? ⟨b, o + j, none⟩ = some c) ∧ ∀ v ∈ cs, v.single = true := by
  unfold hcells at hc
  obtain ⟨all, h1, h2⟩ := Option.bind_eq_some_iff.1 hc
  split at h2
  · rename_i hle
    cases h2
    have ho := h.obj id all b h1 hb
    have key : ∀ (l : List V) (k : Nat), (∀ (j : Nat) v, l[j]? = some v → all[k + j]? = some v) → ∃ ds : List Value, RepL S bl w l ds ∧ (∀ (j : Nat) c, ds[j]? = some c → w.cell? ⟨b, k + j, none⟩ = some c) ∧ ∀ v ∈ l, v.single = true := by
      intro l
      induction l with
      | nil => intro k _; exact ⟨[], by simp only [RepL], fun j c hj => by simp at hj, fun v hv => by cases hv⟩
      | cons v l ih =>
        intro k hk
        have h0 := hk 0 v rfl
        rw [Nat.add_zero] at h0
        obtain ⟨a1, c, a2, a3⟩ := ho.rep k v h0
        obtain ⟨ds, b1, b2, b3⟩ := ih (k + 1) fun j u hj => by
          have := hk (j + 1) u (by simpa using hj)
          rwa [show k + 1 + j = k + (j + 1) by omega]
        refine ⟨c :: ds, by simp only [RepL]; exact ⟨c, ds, rfl, a3, b1⟩, fun j d hd => ?_, fun u hu => ?_⟩
        · cases j with
          | zero => simp at hd; subst hd; exact a2
          | succ j =>
            have := b2 j d (by simpa using hd)
            rwa [show k + 1 + j = k + (j + 1) by omega] at this
        · rcases List.mem_cons.1 hu with rfl | hu
          · exact a1
          · exact b3 u hu
    refine ⟨by simp; omega, key _ o fun j v hj => ?_⟩
    rw [List.getElem?_take] at hj
    split at hj
    · rwa [List.getElem?_drop] at hj
    · cases hj
  · cases h2

theorem run_loadAtN {t : TypeId} {n b o : Nat} (ht : isAggB P t = true) (hz : szIs P t n = true) {ds : List Value} (hl : ds.length = n) (hc : ∀ (j : Nat) c, ds[j]? = some c → w.cell? ⟨b, o + j, none⟩ = some c) :
    (Instr.loadAt t (.pointer (some ⟨b, o, none⟩))).run P w = .ok (.agg ds.toArray) w := by
  have hu : ∃ d, P.underlying t = some d := by
    unfold isAggB at ht
    cases hu : P.underlying t with
    | none => rw [hu] at ht; cases ht
    | some d => exact ⟨d, rfl⟩
  obtain ⟨d, hu⟩ := hu
  simp only [Instr.loadAt, Instr.sureAddr, Sem.run_bind, Sem.run_pure, Result.andThen_ok, loadVar, run_isAgg hu, ht, Sem.run_ite, if_true, run_size hz, run_loadCells P hl hc]
theorem tips_agg_dis1 (cs : List V) (c : Value) : tips (.agg (cs.map V.dis1)) c = [] := by
  cases c <;> first | rfl | exact tipsL_dis1 _ _
theorem RepC.piece {vs : List V} {b o : Nat} (h : RepC S bl w vs b o) (i n : Nat) : RepC S bl w ((vs.drop i).take n) b (o + i) := by
  refine (RepC_iff _ _ _).2 fun j v hj => ?_
  rw [List.getElem?_take] at hj
  split at hj
  · rw [List.getElem?_drop] at hj
    have := (RepC_iff vs b o).1 h (i + j) v hj
    rwa [← Nat.add_assoc] at this
  · cases hj
theorem q_ldn {t : TypeId} {n : Nat} {vs : List V} {r : V} {a : Value} (h : St lim B F S bl vals H w) (hvs : RepL S bl w vs [a]) (ht : isAggB P t = true) (hz : szIs P t n = true) (hr : aLdn n H vs = some r) :
    Quiet P S bl w r (Instr.loadAt t a) := by
  obtain ⟨p, rfl, h1⟩ := one_inv hvs
  cases p <;> try (simp [aLdn] at hr; done)
  · rename_i id o
    obtain ⟨cs, hcs, rfl⟩ := Option.map_eq_some_iff.1 (show (hcells H id o n).map _ = some r from hr)
    obtain ⟨b, hb, rfl⟩ := h1.ptr_inv
    obtain ⟨hl, ds, a1, a2, a3⟩ := h.cells hcs hb
    have hl2 := ((RepL_iff cs ds).1 a1).1
    exact ⟨_, run_loadAtN ht hz (by omega) a2, by simp only [Rep]; exact ⟨_, rfl, a1.dis1, fun v hv => by obtain ⟨u, hu, rfl⟩ := List.mem_map.1 hv; exact V.dis1_single (a3 u hu)⟩, tips_agg_dis1 _ _⟩
  · rename_i cs i
    simp only [aLdn] at hr
    split at hr
    · rename_i hle
      cases hr
      obtain ⟨b, o, rfl, hC⟩ := h1.fp_inv
      obtain ⟨ds, a1, a2, a3⟩ := (hC.piece i n).cells
      have hl2 := ((RepL_iff _ ds).1 a1).1
      exact ⟨_, run_loadAtN ht hz (by rw [← hl2]; simp; omega) fun j c hj => (a2 j c hj).1, by simp only [Rep]; exact ⟨_, rfl, a1.dis1, fun v hv => by obtain ⟨u, hu, rfl⟩ := List.mem_map.1 hv; exact V.dis1_single (a3 u hu)⟩, tips_agg_dis1 _ _⟩
    · cases hr
end
end Go.Abs
