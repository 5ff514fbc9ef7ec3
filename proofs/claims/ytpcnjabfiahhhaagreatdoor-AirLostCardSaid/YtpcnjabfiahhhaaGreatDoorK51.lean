/- A part of the proof of RowAirFits, RowAirHeard, RowAirOrder, RowAirLost: lemmas alone, without conditions. -/
import Derived.Test.YtpcnjabfiahhhaaGreatDoorK50
set_option linter.all false
namespace Go.Abs
open Go.Proofs.YtpcnjabfiahhhaaGreatDoor
def aAv (p : Nat → Bool) : Nat → Nat
 | 0 => 0
 | n + 1 => aAv p n + (if p n = true then 1 else 0)
theorem aBo {z : Int} {p p' : Nat → Bool} (h : ∀ i, p' i = true → z = (i : Int) ∨ p i = true) : ∀ n, aAv p' n ≤ aAv p n + (if 0 ≤ z ∧ z < (n : Int) then 1 else 0)
 | 0 => Nat.zero_le _
 | n + 1 => by
   have ih := aBo h n
   have hn := h n
   rw [aAv, aAv]
   by_cases h1 : p' n = true
   ·rw [if_pos h1]
    rcases hn h1 with h2 | h2
    ·rw [if_neg (by omega)] at ih
     rw [if_pos (show 0 ≤ z ∧ z < ((n + 1 : Nat) : Int) by omega)]; omega
    ·rw [if_pos h2]; split at ih <;> split <;> omega
   ·rw [if_neg h1]; split at ih <;> split <;> split <;> omega
theorem aBp : ∀ (L : List Say) (p : Nat → Bool) (n : Nat), (∀ i, p i = true → ∃ y ∈ L, y.slot = (i : Int)) → aAv p n ≤ L.length
 | [], p, n, h => by
   have : ∀ n, aAv p n = 0 := by
    intro n; induction n with
    | zero => rfl
    | succ n ih => rw [aAv, ih, if_neg (fun k => by obtain ⟨y, hy, _⟩ := h n k; cases hy)]
   rw [this]; exact Nat.zero_le _
 | y :: L, p, n, h => by
   have h1 := aBp L (fun i => L.any fun z => z.slot == (i : Int)) n (fun i hi => by
    obtain ⟨z, hz, e⟩ := List.any_eq_true.1 hi; exact ⟨z, hz, by simpa using e⟩)
   have h2 := aBo (z := y.slot) (p := fun i => L.any fun z => z.slot == (i : Int)) (p' := p) (fun i hi => by
    obtain ⟨z, hz, e⟩ := h i hi
    rcases List.mem_cons.1 hz with rfl | hz
    ·exact .inl e
    ·exact .inr (List.any_eq_true.2 ⟨z, hz, by simpa using e⟩)) n
   rw [List.length_cons]
   split at h2 <;> omega
theorem aBq {h : Nat → Option (Option Heard)} : ∀ n, (dJ h n).1.length + (dJ h n).2 = aAv (fun i => (h i).isSome) n
 | 0 => rfl
 | n + 1 => by
   have ih := aBq (h := h) n
   rw [dJ, aAv, ← ih]
   cases hn : h n with
   | none => simp [hst]
   | some x => cases x with
     | none => simp [hst]; omega
     | some y => simp [hst]; omega
theorem aEu {c : Config} {l : List Port} {m : List Slot} {p ppm : Int} {g : Guard} {says : List Say} {lost : List Int} : (cB c l m p g ppm says lost).1.length + (cB c l m p g ppm says lost).2 ≤ says.length := by
 unfold cB
 rw [aBq]
 refine aBp _ _ _ fun i hi => ?_
 cases e : says.find? (fun y => y.slot == (i : Int)) with
 | none => unfold lX at hi; rw [e] at hi; cases hi
 | some y => exact ⟨y, List.mem_of_find?_eq_some e, by simpa using List.find?_some e⟩
theorem aT7 {L : List Heard} (h : L.Pairwise fun a b => a.slot < b.slot) {i : Nat} {a b : Heard} (ha : L[i]? = some a) (hb : L[i + 1]? = some b) : a.slot < b.slot := by
 obtain ⟨h1, rfl⟩ := List.getElem?_eq_some_iff.1 ha
 obtain ⟨h2, rfl⟩ := List.getElem?_eq_some_iff.1 hb
 exact List.pairwise_iff_getElem.1 h i (i + 1) h1 h2 (by omega)
attribute [local irreducible] enL R RR dF cZ lV dE dG mP apply dB eI aX aZ cO aW fB aP aN cK bN gL cA V.rb V.rbL
set_option maxHeartbeats 8000000 in
theorem airOrder {us : List V} (h : aDt [.int .i64, .int .u8, tG, .sl yY, .sl (.int .i64)] us) : Call tab none vY us [] = some (.bool true, []) := by
 obtain ⟨_, _, rfl, h1, _, _, rfl, h2, _, _, rfl, h3, _, _, rfl, h4, _, _, rfl, h5, rfl⟩ := h
 obtain ⟨m, rfl, _⟩ := uW h1
 obtain ⟨p, rfl, wp⟩ := uW h2
 obtain ⟨cs, rfl, h3⟩ := h3
 obtain ⟨g, rfl, _⟩ := R3 h3
 obtain ⟨l, rfl, hl, _⟩ := aFt (fun _ => aD1) h4
 obtain ⟨lost, rfl, hlo, _⟩ := aFt (fun _ => aDq) h5
 have wp := aFr wp
 clear h1 h2 h3 h4 h5
 show Call tab none vY [.int .i64 m, .int .u8 p, g.v, .sl none l.length (enL l), .sl none lost.length (enL lost)] [] = _
 have hri := fun s H => F9 (s := s) (H := H) (g := g) (l := l) (by omega)
 cases hr : sC g l
 ·rw [hr] at hri
  unfold Guard.v at *
  ((first | refine aC ?_ | skip); refine bE (cf := dW) rfl rfl rfl rfl ?_; unfold dW; dsimp only [aA, Nat.reduceAdd, Nat.zero_add])
  repeat' (first | refine aF ?_ | refine yc ?_ (ha := by first | exact oO | exact hri _ _ | assumption) | refine sG (fun _ => ?_) fun _ => ?_ | refine aG ?_ | refine sH (fun _ => ?_) fun _ => ?_ | fail)
  all_goals rfl
 rw [hr] at hri
 by_cases hlo2 : lost.length ≤ 60
 rotate_left
 ·unfold Guard.v at *
  ((first | refine aC ?_ | skip); refine bE (cf := dW) rfl rfl rfl rfl ?_; unfold dW; dsimp only [aA, Nat.reduceAdd, Nat.zero_add])
  repeat' (first | refine aF ?_ | refine yc ?_ (ha := by first | exact oO | exact hri _ _ | assumption) | refine sG (fun _ => ?_) fun _ => ?_ | refine aG ?_ | refine sH (fun _ => ?_) fun _ => ?_ | fail)
  all_goals rfl
 obtain ⟨c, P, S, hX, hM⟩ := W8 (s := some 0) (H := [Cel.enc g]) m
 have hn1 := hX.net.n1
 obtain ⟨q, hq, hql⟩ := A4 (a := p) (b := (c.parts.length : Int)) wp.1 (by omega)
 have hql' : q < c.parts.length := by omega
 have wpw : IntKind.i64.wrap p = p := IntWalk.i64_in _ (by omega)
 have hpl0 : (c.parts.length : Int) ≠ 0 := by omega
 have hM : Call tab (some 0) aR [.int .i64 m] ([] ++ [[.bool g.on, .int .i64 g.start, .sl none g.ages.length (enL g.ages)]]) = _ := hM
 have hse := fun s H => aGv hX hql' hr s H
 have hll : l.length ≤ 40 := by
  simp only [sC, Bool.and_eq_true, decide_eq_true_eq] at hr; exact hr.1.1
 have hslt := fun s H => hX.net.rslt s H q hql'
 have hSl := hX.slen q
 have hd1 : ∀ L, aI6 l.length L → ∀ s H, Call tab s dH [c.v, .int .i64 (q : Int), g.v, .int .i64 0, .sl none L.length (enL L), .sl none lost.length (enL lost)] H = some (pF (cB c (P q) (S q) q g 0 L lost), H) := fun L hL s H => R4 hX hql' (by have := hL.1; omega) (fun y hy => by have := hL.2 y hy; omega) (by omega)
 have hft : ∀ (i : Int) (f : Frame), f.ages.length ≤ 1000 → ∀ s H, Call tab s gB [c.v, .int .i64 (q : Int), .int .i64 i, f.v] H = some (.bool (F6 c (P q) (S q) q i f), H) := fun i f hf s H => aD8 hX.net hX.slt hX.prt (hX.slen q) hql' (by omega)
 have hinl := fun x s H => aRl (s := s) (H := H) (l := lost) (x := x) (by omega)
 unfold pF at hd1
 unfold Guard.v Config.v Frame.v at *
 ((first | refine aC ?_ | skip); refine bE (cf := dW) rfl rfl rfl rfl ?_; unfold dW; dsimp only [aA, Nat.reduceAdd, Nat.zero_add])
 repeat' (first | refine aF ?_ | refine yc ?_ (ha := by first | exact oO | exact hri _ _ | exact hM | assumption) | refine sG (fun _ => ?_) fun _ => ?_ | refine aG ?_ | refine sH (fun _ => ?_) fun _ => ?_ | fail)
 refine aTb (hse _ _) fun L hL => ?_
 have hd1 := hd1 L hL
 unfold aI5
 have q1 := aEu (c := c) (l := P q) (m := S q) (p := q) (g := g) (ppm := 0) (says := L) (lost := lost)
 have q2 := G9 (c := c) (l := P q) (m := S q) (p := q) (g := g) (ppm := 0) (says := L) (lost := lost)
 have q3 : ∀ x ∈ (cB c (P q) (S q) q g 0 L lost).1, inB lost x.slot = false ∧ F6 c (P q) (S q) q x.slot x.frame = true := fun x hx => by
  obtain ⟨i, _, e, h⟩ := (l7 (fun i x h => (tL h).1) (S q).length).1 x hx
  obtain ⟨_, h2, h3⟩ := tL h
  rw [e]; exact ⟨h2, h3⟩
 have q4 := (l7 (h := lX c (P q) (S q) q g 0 L lost) (fun i x h => (tL h).1) (S q).length).2
 have q5 := s9 (c := c) (l := P q) (m := S q) (p := q) (g := g) (ppm := 0) (says := L) (lost := lost)
 have hLl := hL.1
 rw [hLl] at q1
 change List.Pairwise _ (cB c (P q) (S q) q g 0 L lost).1 at q4
 generalize cB c (P q) (S q) q g 0 L lost = Q at *
 repeat' (first | refine aF ?_ | refine yc ?_ (ha := by first | exact hd1 _ _ | assumption) | refine sG (fun _ => ?_) fun _ => ?_ | refine aG ?_ | refine sH (fun _ => ?_) fun _ => ?_ | fail)
 refine oK Q.1.length (fun i (_ : Unit) => [(15, .int .i64 i)]) (fun _ _ => _) (fun i _ => True) ?_ ?_ () trivial
 ·intro i _ hi _ ih
  obtain ⟨x, hx⟩ := oZ hi
  have hxm := List.mem_of_getElem? hx
  obtain ⟨k1, k2⟩ := q3 x hxm
  have hft := hft x.slot x.frame (q5 x hxm)
  rw [k2] at hft
  have hinl := hinl x.slot
  rw [k1] at hinl
  have hwi : IntKind.i64.wrap ((i : Int) + 1) = ((i + 1 : Nat) : Int) := IntWalk.i64_in _ (by omega)
  have hil : (i : Int) < (Q.1.length : Int) := by omega
  cases i with
  | zero =>
    have h0 : ¬ (0 : Int) < ((0 : Nat) : Int) := by decide
    have hdt : ((enL Q.1).drop 1).take 14 = [.int .i64 x.frame.kind, .int .i64 x.frame.part, .int .i64 x.frame.node, .int .i64 x.frame.wait, .int .i64 x.frame.mask, .int .i64 x.frame.link, .bool x.frame.flag, .int .i64 x.frame.cycle, .int .i64 x.frame.offset, .sl none x.frame.ages.length (enL x.frame.ages), .int .i64 x.frame.frm, .int .i64 x.frame.to, .int .i64 x.frame.seq, .sl none x.frame.body.length (enL x.frame.body)] := aDk (i := 0) (z := 16) (o := 1) hx rfl inferInstance rfl rfl
    refine aJ (by dsimp only [eT, lk, Nat.reduceBEq, cond_true, cond_false, Option.getD_some, Option.getD_none]; first | done | exact rfl) ?_; refine aE ?_
    unfold iG
    repeat' (first | refine aF ?_ | refine yc ?_ (ha := by first | exact hft _ _ | exact hinl _ _ | assumption) | refine sG (fun _ => ?_) fun _ => ?_ | refine aG ?_ | refine sH (fun _ => ?_) fun _ => ?_ | fail)
    refine cV ?_
    exact ih () trivial
  | succ j =>
    have h0 : (0 : Int) < ((j + 1 : Nat) : Int) := by omega
    obtain ⟨w, hw⟩ := oZ (l := Q.1) (i := j) (by omega)
    have hlt := aT7 q4 hw hx
    have hle : ¬ x.slot ≤ w.slot := by omega
    have hwj : IntKind.i64.wrap (((j + 1 : Nat) : Int) - 1) = (j : Int) := by rw [IntWalk.i64_in _ (by omega)]; omega
    have hjl : j < Q.1.length := by omega
    refine aJ (by dsimp only [eT, lk, Nat.reduceBEq, cond_true, cond_false, Option.getD_some, Option.getD_none]; first | done | exact rfl) ?_; refine aE ?_
    unfold iG
    repeat' (first | refine aF ?_ | refine yc ?_ (ha := by first | exact hft _ _ | exact hinl _ _ | assumption) | refine sG (fun _ => ?_) fun _ => ?_ | refine aG ?_ | refine sH (fun _ => ?_) fun _ => ?_ | fail)
    refine cV ?_
    exact ih () trivial
 ·intro _ _
  have k0 : (0 : Int) ≤ (Q.2 : Int) := by omega
  have k1 : (Q.1.length : Int) + (Q.2 : Int) ≤ (l.length : Int) := by omega
  have k2 : (Q.1.length : Int) + (Q.2 : Int) ≤ ((S q).length : Int) := by omega
  refine aJ (by dsimp only [eT, lk, Nat.reduceBEq, cond_true, cond_false, Option.getD_some, Option.getD_none]; first | done | exact rfl) ?_; refine aE ?_
  unfold iG
  repeat' (first | refine aF ?_ | refine yc ?_ (ha := by first | exact hslt _ _ | assumption) | refine sG (fun _ => ?_) fun _ => ?_ | refine aG ?_ | refine sH (fun _ => ?_) fun _ => ?_ | fail)
  all_goals first | rfl | (rw [decide_eq_true k2])
end Go.Abs
namespace Go.Abs
open Go.Proofs.YtpcnjabfiahhhaaGreatDoor
abbrev isK (k : Int) (y : Say) : Bool := y.slot == k
theorem tY {α : Type} {p q : α → Bool} : ∀ l : List α, (∀ x, q x = true → p x = true) → (l.filter p).find? q = l.find? q
 | [], _ => rfl
 | x :: l, h => by
   have ih := tY l h
   by_cases hp : p x = true
   ·rw [List.filter_cons_of_pos hp, List.find?_cons, List.find?_cons, ih]
   ·rw [List.filter_cons_of_neg hp, ih, List.find?_cons_of_neg (fun k => hp (h x k))]
theorem K0 {α : Type} {p q : α → Bool} (l : List α) (h : ∀ x, p x = true → ¬ q x = true) : (l.filter p).find? q = none := List.find?_eq_none.2 fun x hx => h x (List.mem_filter.1 hx).2
section
variable {c : Config} {l : List Port} {m : List Slot} {p ppm : Int} {g : Guard} {says : List Say} {k : Nat}
theorem O1 {s1 s2 : List Say} {l1 l2 : List Int} {i : Nat} (h : s1.find? (fun y => y.slot == (i : Int)) = s2.find? (fun y => y.slot == (i : Int))) (hl : inB l1 i = inB l2 i) : lX c l m p g ppm s1 l1 i = lX c l m p g ppm s2 l2 i := by unfold lX; rw [h, hl]
theorem aGd : cB c l m p g ppm says [(k : Int)] = cB c l m p g ppm (says.filter fun y => !isK k y) [] := by
 unfold cB
 refine zB _ fun i _ => ?_
 by_cases hi : i = k
 ·subst hi
  have e1 : (says.filter fun y => !isK (i : Int) y).find? (fun y => y.slot == (i : Int)) = none := K0 says (fun x h => by simpa using h)
  have e2 : inB [(i : Int)] (i : Int) = true := by simp [inB]
  unfold lX
  rw [e1, e2]
  cases says.find? (fun y => y.slot == (i : Int)) <;> rfl
 ·refine O1 (tY says fun x h => ?_).symm ?_
  ·have : x.slot = (i : Int) := by simpa using h
   simp [isK, this]; omega
  ·simp [inB]; omega
theorem aHo : cB c l m p g ppm ((says.filter fun y => !isK k y) ++ says.filter (isK k)) [] = cB c l m p g ppm says [] := by
 unfold cB
 refine zB _ fun i _ => O1 ?_ rfl
 rw [List.find?_append]
 by_cases hi : i = k
 ·subst hi
  rw [K0 says (fun x h => by simpa using h), Option.none_or, tY says (fun x h => h)]
 ·have e1 : ∀ x : Say, (x.slot == (i : Int)) = true → (!isK k x) = true := fun x h => by
   have : x.slot = (i : Int) := by simpa using h
   simp [isK, this]; omega
  have e2 : ∀ x : Say, isK k x = true → ¬ (x.slot == (i : Int)) = true := fun x h => by
   have : x.slot = (k : Int) := by simpa using h
   simp [this]; omega
  rw [tY says e1, K0 says e2, Option.or_none]
theorem aUv : cB c l m p g ppm [] [] = ([], 0) := S1 (m := 0) _ (Nat.zero_le _) fun _ _ _ => rfl
end
attribute [local irreducible] enL R RR dF cZ lV dE dG mP apply dB eI aX aZ cO aW fB aP aN cK bN gL cA V.rb V.rbL
set_option maxHeartbeats 8000000 in
theorem airLost {us : List V} (h : aDt [.int .i64, .int .u8, tG, .sl yY, .int .u8] us) : Call tab none yN us [] = some (.bool true, []) := by
 obtain ⟨_, _, rfl, h1, _, _, rfl, h2, _, _, rfl, h3, _, _, rfl, h4, _, _, rfl, h5, rfl⟩ := h
 obtain ⟨m, rfl, _⟩ := uW h1
 obtain ⟨p, rfl, wp⟩ := uW h2
 obtain ⟨cs, rfl, h3⟩ := h3
 obtain ⟨g, rfl, _⟩ := R3 h3
 obtain ⟨l, rfl, hl, _⟩ := aFt (fun _ => aD1) h4
 obtain ⟨z, rfl, wz⟩ := uW h5
 have wp := aFr wp
 have wz := aFr wz
 clear h1 h2 h3 h4 h5
 show Call tab none yN [.int .i64 m, .int .u8 p, g.v, .sl none l.length (enL l), .int .u8 z] [] = _
 have hri := fun s H => F9 (s := s) (H := H) (g := g) (l := l) (by omega)
 cases hr : sC g l
 ·rw [hr] at hri
  unfold Guard.v at *
  ((first | refine aC ?_ | skip); refine bE (cf := iU) rfl rfl rfl rfl ?_; unfold iU; dsimp only [aA, Nat.reduceAdd, Nat.zero_add])
  repeat' (first | refine aF ?_ | refine yc ?_ (ha := by first | exact oO | exact hri _ _ | assumption) | refine sG (fun _ => ?_) fun _ => ?_ | refine aG ?_ | refine sH (fun _ => ?_) fun _ => ?_ | fail)
  all_goals rfl
 rw [hr] at hri
 obtain ⟨c, P, S, hX, hM⟩ := W8 (s := some 0) (H := [Cel.enc g]) m
 have hn1 := hX.net.n1
 obtain ⟨q, hq, hql⟩ := A4 (a := p) (b := (c.parts.length : Int)) wp.1 (by omega)
 have hql' : q < c.parts.length := by omega
 have hSp := aBm hX hql'
 have hSl := hX.slen q
 obtain ⟨k, hk, hkl⟩ := A4 (a := z) (b := ((S q).length : Int)) wz.1 (by omega)
 have hSn : ((S q).length : Int) ≠ 0 := by omega
 have wpw : IntKind.i64.wrap p = p := IntWalk.i64_in _ (by omega)
 have wzw : IntKind.i64.wrap z = z := IntWalk.i64_in _ (by omega)
 have hpl0 : (c.parts.length : Int) ≠ 0 := by omega
 have hM : Call tab (some 0) aR [.int .i64 m] ([] ++ [[.bool g.on, .int .i64 g.start, .sl none g.ages.length (enL g.ages)]]) = _ := hM
 have hse := fun s H => aGv hX hql' hr s H
 have hll : l.length ≤ 40 := by
  simp only [sC, Bool.and_eq_true, decide_eq_true_eq] at hr; exact hr.1.1
 have hslt := fun s H => hX.net.rslt s H q hql'
 have hd : ∀ (L : List Say) (lo : List Int), L.length ≤ 1000 → (∀ y ∈ L, y.bytes.length ≤ 1000) → lo.length ≤ 60 → ∀ s H, Call tab s dH [c.v, .int .i64 (q : Int), g.v, .int .i64 0, .sl none L.length (enL L), .sl none lo.length (enL lo)] H = some (pF (cB c (P q) (S q) q g 0 L lo), H) := fun L lo h1 h2 h3 s H => R4 hX hql' (by omega) (fun y hy => by have := h2 y hy; omega) (by omega)
 have hsm : ∀ (L : List Say) (lo : List Int) s H, Call tab s eL [.sl none (cB c (P q) (S q) q g 0 L lo).1.length (enL (cB c (P q) (S q) q g 0 L lo).1), .sl none (cB c (P q) (S q) q g 0 L lo).1.length (enL (cB c (P q) (S q) q g 0 L lo).1)] H = some (.bool true, H) := fun L lo s H => K7 (by have := G9 (c := c) (l := P q) (m := S q) (p := q) (g := g) (ppm := 0) (says := L) (lost := lo); omega) s9
 unfold pF at hd
 unfold Guard.v Config.v at *
 ((first | refine aC ?_ | skip); refine bE (cf := iU) rfl rfl rfl rfl ?_; unfold iU; dsimp only [aA, Nat.reduceAdd, Nat.zero_add])
 repeat' (first | refine aF ?_ | refine yc ?_ (ha := by first | exact oO | exact hri _ _ | exact hM | assumption) | refine sG (fun _ => ?_) fun _ => ?_ | refine aG ?_ | refine sH (fun _ => ?_) fun _ => ?_ | fail)
 refine aTb (hse _ _) fun L hL => ?_
 obtain ⟨hLl, hLb⟩ := hL
 have eo := aGd (c := c) (l := P q) (m := S q) (p := q) (g := g) (ppm := 0) (says := L) (k := k)
 have es := aHo (c := c) (l := P q) (m := S q) (p := q) (g := g) (ppm := 0) (says := L) (k := k)
 have f1 : (L.filter fun y => !isK k y).length ≤ L.length := List.length_filter_le ..
 have f2 : (L.filter (isK k)).length ≤ L.length := List.length_filter_le ..
 have b1 : ∀ y ∈ L.filter (fun y => !isK k y), y.bytes.length ≤ 1000 := fun y hy => hLb y (List.mem_filter.1 hy).1
 have b2 : ∀ y ∈ L.filter (isK k), y.bytes.length ≤ 1000 := fun y hy => hLb y (List.mem_filter.1 hy).1
 have d1 := hd L [(k : Int)] (by omega) hLb (by simp)
 have d2 := hd (L.filter fun y => !isK k y) [] (by omega) b1 (by simp)
 have d3 := hd ((L.filter fun y => !isK k y) ++ L.filter (isK k)) [] (by rw [List.length_append]; omega) (fun y hy => (List.mem_append.1 hy).elim (b1 y) (b2 y)) (by simp)
 have d4 := hd L [] (by omega) hLb (by simp)
 have d5 := hd [] [] (by simp) (by simp) (by simp)
 have s1 := hsm L [(k : Int)]
 have s2 := hsm L []
 rw [← eo] at d2
 rw [es] at d3
 rw [aUv] at d5
 generalize cB c (P q) (S q) q g 0 L [(k : Int)] = Q1 at *
 generalize cB c (P q) (S q) q g 0 L [] = Q2 at *
 clear eo es hd hsm
 simp only [aL, List.length_nil] at d2 d3 d4 d5
 simp only [bL, aL, List.append_nil, List.length_cons, List.length_nil, Nat.zero_add] at d1
 have e3 : (Cel.enc (k : Int) : List V) = [.int .i64 (k : Int)] := rfl
 rw [e3] at d1
 unfold aI5
 repeat' (first | refine aF ?_ | refine yc ?_ (ha := by first | exact hslt _ _ | assumption) | refine sG (fun _ => ?_) fun _ => ?_ | refine aG ?_ | refine sH (fun _ => ?_) fun _ => ?_ | fail)
 refine oK L.length (fun i (t : List Say × List Say) => [(15, .sl (some 3) t.1.length (enL t.1)), (16, .sl (some 3) t.2.length (enL t.2)), (17, .int .i64 i)]) (fun _ _ => _) (fun i t => t = ((L.take i).filter fun y => !isK k y, (L.take i).filter (isK k))) ?_ ?_ ([], []) rfl
 ·intro i t hi ht ih
  obtain ⟨x, hx⟩ := oZ hi
  obtain ⟨A, B⟩ := t
  obtain ⟨hA, hB⟩ := Prod.mk.inj ht
  have hil : (i : Int) < (L.length : Int) := by omega
  have hwi : IntKind.i64.wrap ((i : Int) + 1) = ((i + 1 : Nat) : Int) := IntWalk.i64_in _ (by omega)
  have g1 : A.length ≤ 40 := by rw [hA]; exact Nat.le_trans (List.length_filter_le ..) (by rw [List.length_take]; omega)
  have g2 : B.length ≤ 40 := by rw [hB]; exact Nat.le_trans (List.length_filter_le ..) (by rw [List.length_take]; omega)
  have n1 : A ++ [x].filter (fun y => !isK k y) = (L.take (i + 1)).filter fun y => !isK k y := by rw [← kO hx, List.filter_append, hA]
  have n2 : B ++ [x].filter (isK k) = (L.take (i + 1)).filter (isK k) := by rw [← kO hx, List.filter_append, hB]
  clear ht hA hB
  by_cases h1 : x.slot = (k : Int)
  ·have h2 : isK k x = true := by simp [h1]
   rw [List.filter_cons_of_neg (by simp [h2]), List.filter_nil, List.append_nil] at n1
   rw [List.filter_cons_of_pos h2, List.filter_nil] at n2
   refine aJ (by dsimp only [eT, lk, Nat.reduceBEq, cond_true, cond_false, Option.getD_some, Option.getD_none]; first | done | exact rfl) ?_; refine aE ?_
   unfold kC
   repeat' (first | refine aF ?_ | refine yc ?_ | refine sG (fun _ => ?_) fun _ => ?_ | refine aG ?_ | refine sH (fun _ => ?_) fun _ => ?_ | fail)
   refine cV ?_
   exact ih (A, B ++ [x]) (by rw [← n1, ← n2])
  ·have h2 : isK k x = false := by simp [h1]
   rw [List.filter_cons_of_pos (by simp [h2]), List.filter_nil] at n1
   rw [List.filter_cons_of_neg (by simp [h2]), List.filter_nil, List.append_nil] at n2
   refine aJ (by dsimp only [eT, lk, Nat.reduceBEq, cond_true, cond_false, Option.getD_some, Option.getD_none]; first | done | exact rfl) ?_; refine aE ?_
   unfold kC
   repeat' (first | refine aF ?_ | refine yc ?_ | refine sG (fun _ => ?_) fun _ => ?_ | refine aG ?_ | refine sH (fun _ => ?_) fun _ => ?_ | fail)
   refine cV ?_
   exact ih (A ++ [x], B) (by rw [← n1, ← n2])
 ·intro t ht
  rw [List.take_length] at ht
  rw [ht]
  refine aJ (by dsimp only [eT, lk, Nat.reduceBEq, cond_true, cond_false, Option.getD_some, Option.getD_none]; first | done | exact rfl) ?_; refine aE ?_
  unfold kC
  repeat' (first | refine aF ?_ | refine yc ?_ (ha := by first | exact d1 _ _ | exact d2 _ _ | exact d3 _ _ | exact d4 _ _ | exact d5 _ _ | exact s1 _ _ | exact s2 _ _ | assumption) | refine sG (fun _ => ?_) fun _ => ?_ | refine aG ?_ | refine sH (fun _ => ?_) fun _ => ?_ | fail)
  all_goals first | rfl | (rw [beq_self_eq_true])
end Go.Abs
