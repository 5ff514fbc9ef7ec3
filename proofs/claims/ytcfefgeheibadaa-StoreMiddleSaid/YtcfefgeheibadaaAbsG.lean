/-
  Regions in the order of the text: each row, then all of them.
-/
import Derived.Test.YtcfefgeheibadaaAbsN
import Derived.LoopN
namespace Go.Abs
open Go.RowKit (Below)

section
variable {P : Program} {lim : Option Nat} {B : Nat} {F : List Nat} {nt : Nat} {S : Nat → Nat → Prop} {bl : List Nat} {e : Env} {H : Heap} {w : World} {a : Act}

theorem ER.slot (h : ER lim B F nt S bl e H a w) {t : Nat} {v : V} (hv : eget e t = some v) : Rep S bl w v (a.tmps.getD t undef) ∧ t < nt :=
  ⟨h.st.rep (v, a.tmps.getD t undef) (List.mem_map.2 ⟨(t, v), eget_mem hv, rfl⟩), h.bnd (t, v) (eget_mem hv)⟩
theorem ER.bool (h : ER lim B F nt S bl e H a w) {t : Nat} {c : Bool} (hv : eget e t = some (.bool c)) : a.tmps[t]? = some (.bool c) := by
  obtain ⟨h1, h2⟩ := h.slot hv
  have h3 := h1.bool_inv
  have h4 : t < a.tmps.size := by rw [h.size]; exact h2
  simp only [Array.getD_eq_getD_getElem?, Array.getElem?_eq_getElem h4, Option.getD_some] at h3
  rw [Array.getElem?_eq_getElem h4, h3]

theorem sim_op1 {T : Orc} (hT : CallOK P T) {ops : Array Oper} {i : Nat} {o : Oper} {r : Row} {e1 : Env} {H1 : Heap} (ho : ops[i]? = some o) (hok : okRow P nt ops o r = true) (hs : op1 T lim r e H = some (e1, H1))
    (h : ER lim B F nt S bl e H a w) {Q : Exit → Act → World → Prop} {K : Act → World → Prop}
    (hK : ∀ a' w' S' bl', ER lim B F nt S' bl' e1 H1 a' w' → Ext lim B F S bl H w S' bl' H1 w' → K a' w') : wpOp P ops Q i K a w := by
  obtain ⟨d, g, ins⟩ := r
  simp only [okRow, Bool.and_eq_true, beq_iff_eq] at hok
  obtain ⟨⟨⟨hd, hlt⟩, hg⟩, hi⟩ := hok
  have hlt' : ∀ t, d = some t → t < nt := by rintro t rfl; simpa using hlt
  have act : ∀ {e2 : Env} {v : V} {H2 : Heap}, step T lim ins e H = some (v, e2, H2) → (∀ a' w' S' bl', ER lim B F nt S' bl' (putD e2 d v) H2 a' w' → Ext lim B F S bl H w S' bl' H2 w' → K a' w') → o.wp P a w K Q := by
    intro e2 v H2 hst hk
    obtain ⟨k1, k2, k3⟩ := sim_step hT hi hst h
    refine k3.wp fun c w' hc => ?_
    obtain ⟨S', bl', g1, g2⟩ := hc
    have := ER.put (d := d) k1 k2 h.size h.defers (Nat.le_trans h.room g2.below.size) hlt' g1
    rw [hd]
    exact hk _ _ _ _ this g2
  unfold wpOp
  simp only [ho]
  cases g with
  | none =>
    have hgn : o.guard = none := by
      cases hgo : o.guard with
      | none => rfl
      | some x => rw [hgo] at hg; cases hg
    have hw : Region.wanted o (yielded ops a.tmps) = true := by simp [Region.wanted, hgn]
    rw [if_pos hw]
    obtain ⟨q, hq, e2⟩ := Option.map_eq_some_iff.1 (show (step T lim ins e H).map (fun r => (putD r.2.1 d r.1, r.2.2)) = some (e1, H1) from hs)
    cases e2
    exact .inl (act hq hK)
  | some gw =>
    obtain ⟨t, want⟩ := gw
    cases hgo : o.guard with
    | none => rw [hgo] at hg; cases hg
    | some jw =>
      obtain ⟨j, w2⟩ := jw
      rw [hgo] at hg
      simp only [Bool.and_eq_true, beq_iff_eq] at hg
      obtain ⟨rfl, hj⟩ := hg
      simp only [op1] at hs
      cases hc : eget e t with
      | none => rw [hc] at hs; cases hs
      | some v =>
        rw [hc] at hs
        cases v <;> try cases hs
        case tup.refl vs =>
          have hy : yielded ops a.tmps j = none := by
            obtain ⟨h1, h2⟩ := h.slot hc
            simp only [Rep] at h1
            obtain ⟨arr, h3, _⟩ := h1
            have h4 : t < a.tmps.size := by rw [h.size]; exact h2
            simp only [Array.getD_eq_getD_getElem?, Array.getElem?_eq_getElem h4, Option.getD_some] at h3
            unfold yielded
            simp only [hj, Option.bind_some, Array.getElem?_eq_getElem h4, h3]
          have hw : ¬ Region.wanted o (yielded ops a.tmps) = true := by simp [Region.wanted, hgo, hy]
          rw [if_neg hw, hd]
          exact hK _ _ _ _ (h.skip hlt') (Ext.refl _ _ _ _ _ _ _)
        rename_i c
        simp only at hs
        have hy : yielded ops a.tmps j = some c := by
          unfold yielded
          simp only [hj, Option.bind_some, h.bool hc]
        by_cases hcw : c = w2
        · rw [if_pos hcw] at hs
          have hw : Region.wanted o (yielded ops a.tmps) = true := by simp [Region.wanted, hgo, hy, hcw]
          rw [if_pos hw]
          obtain ⟨q, hq, e2⟩ := Option.map_eq_some_iff.1 hs
          cases e2
          exact .inl (act hq hK)
        · rw [if_neg hcw] at hs
          cases hs
          have hw : ¬ Region.wanted o (yielded ops a.tmps) = true := by simp [Region.wanted, hgo, hy, hcw]
          rw [if_neg hw, hd]
          exact hK _ _ _ _ (h.skip hlt') (Ext.refl _ _ _ _ _ _ _)

/-- A region in the order of the text. -/
theorem sim_rops {T : Orc} (hT : CallOK P T) {ops : Array Oper} {Q : Exit → Act → World → Prop} : ∀ (os : List Oper) (rs : List Row) (k : Nat) {e e1 : Env} {H H1 : Heap} {a : Act} {w : World} {S : Nat → Nat → Prop} {bl : List Nat},
    (∀ j, os[j]? = ops[k + j]?) → okRows P nt ops os rs = true → rops T lim rs e H = some (e1, H1) → ER lim B F nt S bl e H a w →
    (∀ a' w' S' bl', ER lim B F nt S' bl' e1 H1 a' w' → Ext lim B F S bl H w S' bl' H1 w' → Q .normal a' w') → wpOps P ops Q (List.range' k os.length) a w
  | [], [], k, e, e1, H, H1, a, w, S, bl, _, _, hr, h, hQ => by
    cases hr
    exact hQ _ _ _ _ h (Ext.refl _ _ _ _ _ _ _)
  | [], _ :: _, _, _, _, _, _, _, _, _, _, _, hok, _, _, _ => by simp [okRows] at hok
  | _ :: _, [], _, _, _, _, _, _, _, _, _, _, hok, _, _, _ => by simp [okRows] at hok
  | o :: os, r :: rs, k, e, e1, H, H1, a, w, S, bl, hos, hok, hr, h, hQ => by
    simp only [okRows, Bool.and_eq_true] at hok
    obtain ⟨⟨e2, H2⟩, h1, h2⟩ := Option.bind_eq_some_iff.1 (show (op1 T lim r e H).bind (fun q => rops T lim rs q.1 q.2) = some (e1, H1) from hr)
    have ho : ops[k]? = some o := by have := hos 0; simpa using this.symm
    rw [List.length_cons, List.range'_succ, wpOps_cons]
    refine sim_op1 hT ho hok.1 h1 h fun a' w' S' bl' g x => ?_
    exact sim_rops hT os rs (k + 1) (fun j => by have := hos (j + 1); rw [List.getElem?_cons_succ] at this; rw [this]; congr 1; omega) hok.2 h2 g
      fun a'' w'' S'' bl'' g' x' => hQ _ _ _ _ g' (x.trans x')
theorem sim_region {T : Orc} (hT : CallOK P T) {id : Nat} {ops : Array Oper} {Q : Exit → Act → World → Prop} {rs : List Row} {e1 : Env} {H1 : Heap}
    (hok : okRows P nt ops ops.toList rs = true) (hr : rops T lim rs e H = some (e1, H1)) (h : ER lim B F nt S bl e H a w)
    (hQ : ∀ a' w' S' bl', ER lim B F nt S' bl' e1 H1 a' w' → Ext lim B F S bl H w S' bl' H1 w' → Q .normal a' w') : (Code.region id ops false).wp P Q a w := by
  refine wp_region ?_
  have := sim_rops hT ops.toList rs 0 (fun j => by simp) hok hr h hQ
  rwa [Array.length_toList, ← List.range_eq_range'] at this
end
end Go.Abs
