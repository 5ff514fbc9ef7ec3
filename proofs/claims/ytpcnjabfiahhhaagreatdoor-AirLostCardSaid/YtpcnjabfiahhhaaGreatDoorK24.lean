/- A part of the proof of RowAirFits, RowAirHeard, RowAirOrder, RowAirLost: lemmas alone, without conditions. -/
import Derived.Test.YtpcnjabfiahhhaaGreatDoorK23
set_option linter.all false
namespace Go.Abs
open Go.Proofs.YtpcnjabfiahhhaaGreatDoor
attribute [local irreducible] enL R RR dF cZ lV dE dG mP apply dB eI aX aZ cO aW fB aP aN cK bN gL cA V.rb V.rbL
def yS {α : Type} (p : α → Bool) : List α → Nat → Int
 | [], _ => -1
 | x :: l, n => if p x then (n : Int) else yS p l (n + 1)
theorem rH {α : Type} {p : α → Bool} {x : α} {l : List α} {n : Nat} (h : p x = true) : yS p (x :: l) n = n := by rw [yS, if_pos h]
theorem wO {α : Type} {p : α → Bool} {x : α} {l : List α} {n : Nat} (h : p x = false) : yS p (x :: l) n = yS p l (n + 1) := by rw [yS, if_neg (by rw [h]; decide)]
theorem oH {α : Type} {l : List α} {i : Nat} {x : α} (h : l[i]? = some x) : l.drop i = x :: l.drop (i + 1) := by
 obtain ⟨hl, hx⟩ := List.getElem?_eq_some_iff.1 h
 rw [List.drop_eq_getElem_cons hl, hx]
theorem aHx {α : Type} {p : α → Bool} : ∀ {l : List α} {n : Nat}, decide (0 ≤ yS p l n) = l.any p
 | [], _ => rfl
 | x :: l, n => by
   cases h : p x
   ·rw [wO h, aHx, List.any_cons, h, Bool.false_or]
   ·rw [rH h, List.any_cons, h, Bool.true_or]; exact decide_eq_true (by omega)
theorem aP3 {α : Type} {a b : List α} {i : Nat} {x y : α} (ha : a[i]? = some x) (hb : b[i]? = some y) (h : a.take i = b.take i) (hxy : x = y) : a.take (i + 1) = b.take (i + 1) := by
 rw [← kO ha, ← kO hb, h, hxy]
theorem aT6 {α : Type} {a b : List α} {i : Nat} {x y : α} (ha : a[i]? = some x) (hb : b[i]? = some y) (hxy : ¬ x = y) : ¬ a = b := fun h => by
 subst h; rw [ha] at hb; exact hxy (Option.some.inj hb)
theorem aGq {s : Option Nat} {H : aB} {a b : List Int} (ha : a.length ≤ 140737488355328) (hb : b.length ≤ 140737488355328) : Call tab s yP [.sl none a.length (enL a), .sl none b.length (enL b)] H = some (.bool (decide (a = b)), H) := by
 ((first | refine aC ?_ | skip); refine bE (cf := qV) rfl rfl rfl rfl ?_; unfold qV; dsimp only [aA, Nat.reduceAdd, Nat.zero_add])
 by_cases hl : (a.length : Int) = (b.length : Int)
 ·repeat' (first | refine aF ?_ | refine yc ?_ | (show zv; refine kF ?_) | (show zV; refine y_cav0 ?_) | refine sG (fun _ => ?_) fun _ => ?_ | refine aG ?_ | refine sH (fun _ => ?_) fun _ => ?_ | fail)
  refine oK a.length (fun i (_ : Unit) => [(5, .int .i64 i)]) (fun _ _ => []) (fun i _ => a.take i = b.take i) ?_ ?_ () rfl
  ·intro i _ hi hq ih
   obtain ⟨x, hx⟩ := oZ hi
   obtain ⟨y, hy⟩ := oZ (l := b) (i := i) (by omega)
   have hw : IntKind.i64.wrap ((i : Int) + 1) = ((i + 1 : Nat) : Int) := IntWalk.i64_in _ (by omega)
   have hil : (i : Int) < (a.length : Int) := by omega
   have hil' : i < b.length := by omega
   by_cases hxy : x = y
   ·refine aJ (by dsimp only [eT, lk, Nat.reduceBEq, cond_true, cond_false, Option.getD_some, Option.getD_none]; first | done | exact rfl) ?_; refine aE ?_
    unfold kD
    repeat' (first | refine aF ?_ | refine yc ?_ | (show zv; refine kF ?_) | (show zV; refine y_cav0 ?_) | refine sG (fun _ => ?_) fun _ => ?_ | refine aG ?_ | refine sH (fun _ => ?_) fun _ => ?_ | fail)
    refine cV ?_
    exact ih () (aP3 hx hy hq hxy)
   ·rw [decide_eq_false (aT6 hx hy hxy)]
    refine aJ (by dsimp only [eT, lk, Nat.reduceBEq, cond_true, cond_false, Option.getD_some, Option.getD_none]; first | done | exact rfl) ?_; refine aE ?_
    unfold kD
    repeat' (first | refine aF ?_ | refine yc ?_ | (show zv; refine kF ?_) | (show zV; refine y_cav0 ?_) | refine sG (fun _ => ?_) fun _ => ?_ | refine aG ?_ | refine sH (fun _ => ?_) fun _ => ?_ | fail)
    rfl
  ·intro _ hq
   have he : a = b := by
    have e1 : b.take a.length = b := List.take_of_length_le (by omega)
    rwa [List.take_length, e1] at hq
   rw [decide_eq_true he]
   refine aJ (by dsimp only [eT, lk, Nat.reduceBEq, cond_true, cond_false, Option.getD_some, Option.getD_none]; first | done | exact rfl) ?_; refine aE ?_
   unfold kD
   repeat' (first | refine aF ?_ | refine yc ?_ | (show zv; refine kF ?_) | (show zV; refine y_cav0 ?_) | refine sG (fun _ => ?_) fun _ => ?_ | refine aG ?_ | refine sH (fun _ => ?_) fun _ => ?_ | fail)
   rfl
 ·rw [decide_eq_false (fun h => hl (by rw [h]))]
  repeat' (first | refine aF ?_ | refine yc ?_ | (show zv; refine kF ?_) | (show zV; refine y_cav0 ?_) | refine sG (fun _ => ?_) fun _ => ?_ | refine aG ?_ | refine sH (fun _ => ?_) fun _ => ?_ | fail)
  rfl
instance (l : List Int) : Decidable (nJ l) := inferInstanceAs (Decidable (_ ∧ _))
theorem rI {s : Option Nat} {H : aB} {l : List Int} : Call tab s N4 [.sl none l.length (enL l)] H = some (.bool (decide (nJ l)), H) := by
 ((first | refine aC ?_ | skip); refine bE (cf := c7) rfl rfl rfl rfl ?_; unfold c7; dsimp only [aA, Nat.reduceAdd, Nat.zero_add])
 by_cases h1 : 1 ≤ l.length ∧ l.length ≤ 6
 ·repeat' (first | refine aF ?_ | refine yc ?_ | (show zv; refine kF ?_) | (show zV; refine y_cav0 ?_) | refine sG (fun _ => ?_) fun _ => ?_ | refine aG ?_ | refine sH (fun _ => ?_) fun _ => ?_ | fail)
  refine oK l.length (fun i (_ : Unit) => [(3, .int .i64 i)]) (fun _ _ => []) (fun i _ => ∀ j, j < i → ∀ x, l[j]? = some x → 0 ≤ x ∧ x ≤ 201) ?_ ?_ () (fun j hj => by omega)
  ·intro i _ hi hq ih
   obtain ⟨x, hx⟩ := oZ hi
   have hw : IntKind.i64.wrap ((i : Int) + 1) = ((i + 1 : Nat) : Int) := IntWalk.i64_in _ (by omega)
   have hil : (i : Int) < (l.length : Int) := by omega
   by_cases hxy : 0 ≤ x ∧ x ≤ 201
   ·refine aJ (by dsimp only [eT, lk, Nat.reduceBEq, cond_true, cond_false, Option.getD_some, Option.getD_none]; first | done | exact rfl) ?_; refine aE ?_
    unfold pU
    repeat' (first | refine aF ?_ | refine yc ?_ | (show zv; refine kF ?_) | (show zV; refine y_cav0 ?_) | refine sG (fun _ => ?_) fun _ => ?_ | refine aG ?_ | refine sH (fun _ => ?_) fun _ => ?_ | fail)
    refine cV ?_
    refine ih () fun j hj y hy => ?_
    by_cases e : j = i
    ·subst e; rw [hx] at hy; cases hy; exact hxy
    ·exact hq j (by omega) y hy
   ·rw [decide_eq_false (fun h => hxy (h.2.2 x (List.mem_of_getElem? hx)))]
    refine aJ (by dsimp only [eT, lk, Nat.reduceBEq, cond_true, cond_false, Option.getD_some, Option.getD_none]; first | done | exact rfl) ?_; refine aE ?_
    unfold pU
    repeat' (first | refine aF ?_ | refine yc ?_ | (show zv; refine kF ?_) | (show zV; refine y_cav0 ?_) | refine sG (fun _ => ?_) fun _ => ?_ | refine aG ?_ | refine sH (fun _ => ?_) fun _ => ?_ | fail)
    all_goals first | rfl | (exfalso; omega)
  ·intro _ hq
   have hok : nJ l := ⟨h1.1, h1.2, fun x hx => by obtain ⟨j, hj⟩ := List.getElem?_of_mem hx; exact hq j (List.getElem?_eq_some_iff.1 hj).1 x hj⟩
   rw [decide_eq_true hok]
   refine aJ (by dsimp only [eT, lk, Nat.reduceBEq, cond_true, cond_false, Option.getD_some, Option.getD_none]; first | done | exact rfl) ?_; refine aE ?_
   unfold pU
   repeat' (first | refine aF ?_ | refine yc ?_ | (show zv; refine kF ?_) | (show zV; refine y_cav0 ?_) | refine sG (fun _ => ?_) fun _ => ?_ | refine aG ?_ | refine sH (fun _ => ?_) fun _ => ?_ | fail)
   rfl
 ·rw [decide_eq_false (fun h => h1 ⟨h.1, h.2.1⟩)]
  repeat' (first | refine aF ?_ | refine yc ?_ | (show zv; refine kF ?_) | (show zV; refine y_cav0 ?_) | refine sG (fun _ => ?_) fun _ => ?_ | refine aG ?_ | refine sH (fun _ => ?_) fun _ => ?_ | fail)
  all_goals first | rfl | (exfalso; omega)
end Go.Abs
