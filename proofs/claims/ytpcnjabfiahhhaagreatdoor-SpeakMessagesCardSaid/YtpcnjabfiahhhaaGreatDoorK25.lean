/- A part of the proof of RowSpeakOffers, RowSpeakMessages: lemmas alone, without conditions. -/
import Derived.Test.YtpcnjabfiahhhaaGreatDoorK24
set_option linter.all false
namespace Go.Abs
open Go.Proofs.YtpcnjabfiahhhaaGreatDoor
attribute [local irreducible] enL R RR fP fB pX fK fQ pU apply fT gQ bW bZ eJ bR iL bG bD eC cR kD dO V.rb V.rbL
def o4 {α : Type} (p : α → Bool) : List α → Nat → Int
 | [], _ => -1
 | x :: l, n => if p x then (n : Int) else o4 p l (n + 1)
theorem c6 {α : Type} {p : α → Bool} {x : α} {l : List α} {n : Nat} (h : p x = true) : o4 p (x :: l) n = n := by rw [o4, if_pos h]
theorem o0 {α : Type} {p : α → Bool} {x : α} {l : List α} {n : Nat} (h : p x = false) : o4 p (x :: l) n = o4 p l (n + 1) := by rw [o4, if_neg (by rw [h]; decide)]
theorem A4 {α : Type} {l : List α} {i : Nat} {x : α} (h : l[i]? = some x) : l.drop i = x :: l.drop (i + 1) := by
 obtain ⟨hl, hx⟩ := List.getElem?_eq_some_iff.1 h
 rw [List.drop_eq_getElem_cons hl, hx]
theorem aJp {α : Type} {p : α → Bool} : ∀ {l : List α} {n : Nat}, decide (0 ≤ o4 p l n) = l.any p
 | [], _ => rfl
 | x :: l, n => by
   cases h : p x
   ·rw [o0 h, aJp, List.any_cons, h, Bool.false_or]
   ·rw [c6 h, List.any_cons, h, Bool.true_or]; exact decide_eq_true (by omega)
theorem aJq {α : Type} {a b : List α} {i : Nat} {x y : α} (ha : a[i]? = some x) (hb : b[i]? = some y) (h : a.take i = b.take i) (hxy : x = y) : a.take (i + 1) = b.take (i + 1) := by
 rw [← oT ha, ← oT hb, h, hxy]
theorem aQm {α : Type} {a b : List α} {i : Nat} {x y : α} (ha : a[i]? = some x) (hb : b[i]? = some y) (hxy : ¬ x = y) : ¬ a = b := fun h => by
 subst h; rw [ha] at hb; exact hxy (Option.some.inj hb)
theorem aJr {s : Option Nat} {H : aC} {f : FuncId} {caps : List V} {p : Int → Bool} {l : List Int} (hr : V.rbL 0 caps = true) (hl : l.length ≤ 140737488355328) (hp : ∀ x ∈ l, Call tab (some 0) f ([.int .i64 x] ++ caps.map V.dis1) [] = some (.bool (p x), [])) (hpu : tab.pu f = true) :
 Call tab s kT [.sl none l.length (enL l), .fn f caps] H = some (.int .i64 (o4 p l 0), H) := by
 have hrf : V.rb 0 (.fn f caps) = true := by simp only [V.rb, hr]
 ((first | refine aJ ?_ | skip); refine bX (cf := dZ) rfl rfl rfl rfl ?_; unfold dZ; dsimp only [aB, Nat.reduceAdd, Nat.zero_add])
 repeat' (first | refine aS ?_ | refine yc ?_ | (show zn; refine aA ?_) | (show zv; refine fA ?_) | (show zV; refine y_cav0 ?_) | (show gA; first | refine aH (fun _ => ?_) fun _ => ?_ | refine gc_E (fun _ => ?_) fun _ => ?_ | refine gc_N (fun _ => ?_) fun _ => ?_ | refine aT ?_ | refine gc_B (fun _ => ?_) fun _ => ?_) | fail)
 refine xU l.length (fun i (_ : Unit) => [(8, .int .i64 i)]) (fun _ _ => []) (fun i _ => o4 p l 0 = o4 p (l.drop i) i) ?_ ?_ () rfl
 ·intro i _ hi hq ih
  obtain ⟨x, hx⟩ := xT hi
  have hd := hp x (List.mem_of_getElem? hx)
  rw [A4 hx] at hq
  have hw : IntKind.i64.wrap ((i : Int) + 1) = ((i + 1 : Nat) : Int) := IntWalk.i64_in _ (by omega)
  have hil : (i : Int) < (l.length : Int) := by omega
  cases hb : p x
  ·rw [o0 hb] at hq
   rw [hb] at hd
   refine cD (by dsimp only [pN, lk, Nat.reduceBEq, cond_true, cond_false, Option.getD_some, Option.getD_none]; first | done | exact rfl) ?_; refine aY ?_
   unfold dP
   repeat' (first | refine aS ?_ | refine yc ?_ (ha := by first | exact hd | assumption) | (show zn; refine aA ?_ (ha := by first | exact hd | assumption)) | (show zv; refine fA ?_ (ha := by first | exact hd | assumption)) | (show zV; refine y_cav0 ?_ (ha := by first | exact hd | assumption)) | (show gA; first | refine aH (fun _ => ?_) fun _ => ?_ | refine gc_E (fun _ => ?_) fun _ => ?_ | refine gc_N (fun _ => ?_) fun _ => ?_ | refine aT ?_ | refine gc_B (fun _ => ?_) fun _ => ?_) | fail)
   refine jQ ?_
   exact ih () hq
  ·rw [c6 hb] at hq
   rw [hb] at hd
   refine cD (by dsimp only [pN, lk, Nat.reduceBEq, cond_true, cond_false, Option.getD_some, Option.getD_none]; first | done | exact rfl) ?_; refine aY ?_
   unfold dP
   repeat' (first | refine aS ?_ | refine yc ?_ (ha := by first | exact hd | assumption) | (show zn; refine aA ?_ (ha := by first | exact hd | assumption)) | (show zv; refine fA ?_ (ha := by first | exact hd | assumption)) | (show zV; refine y_cav0 ?_ (ha := by first | exact hd | assumption)) | (show gA; first | refine aH (fun _ => ?_) fun _ => ?_ | refine gc_E (fun _ => ?_) fun _ => ?_ | refine gc_N (fun _ => ?_) fun _ => ?_ | refine aT ?_ | refine gc_B (fun _ => ?_) fun _ => ?_) | fail)
   rw [hq]
 ·intro _ hq
  rw [List.drop_length] at hq
  refine cD (by dsimp only [pN, lk, Nat.reduceBEq, cond_true, cond_false, Option.getD_some, Option.getD_none]; first | done | exact rfl) ?_; refine aY ?_
  unfold dP
  repeat' (first | refine aS ?_ | refine yc ?_ | (show zn; refine aA ?_) | (show zv; refine fA ?_) | (show zV; refine y_cav0 ?_) | (show gA; first | refine aH (fun _ => ?_) fun _ => ?_ | refine gc_E (fun _ => ?_) fun _ => ?_ | refine gc_N (fun _ => ?_) fun _ => ?_ | refine aT ?_ | refine gc_B (fun _ => ?_) fun _ => ?_) | fail)
  rw [hq]; rfl
theorem aJs {s : Option Nat} {H : aC} {a b : List Int} (ha : a.length ≤ 140737488355328) (hb : b.length ≤ 140737488355328) : Call tab s nS [.sl none a.length (enL a), .sl none b.length (enL b)] H = some (.bool (decide (a = b)), H) := by
 ((first | refine aJ ?_ | skip); refine bX (cf := fU) rfl rfl rfl rfl ?_; unfold fU; dsimp only [aB, Nat.reduceAdd, Nat.zero_add])
 by_cases hl : (a.length : Int) = (b.length : Int)
 ·repeat' (first | refine aS ?_ | refine yc ?_ | (show zn; refine aA ?_) | (show zv; refine fA ?_) | (show zV; refine y_cav0 ?_) | (show gA; first | refine aH (fun _ => ?_) fun _ => ?_ | refine gc_E (fun _ => ?_) fun _ => ?_ | refine gc_N (fun _ => ?_) fun _ => ?_ | refine aT ?_ | refine gc_B (fun _ => ?_) fun _ => ?_) | fail)
  refine xU a.length (fun i (_ : Unit) => [(13, .int .i64 i)]) (fun _ _ => []) (fun i _ => a.take i = b.take i) ?_ ?_ () rfl
  ·intro i _ hi hq ih
   obtain ⟨x, hx⟩ := xT hi
   obtain ⟨y, hy⟩ := xT (l := b) (i := i) (by omega)
   have hw : IntKind.i64.wrap ((i : Int) + 1) = ((i + 1 : Nat) : Int) := IntWalk.i64_in _ (by omega)
   have hil : (i : Int) < (a.length : Int) := by omega
   have hil' : i < b.length := by omega
   by_cases hxy : x = y
   ·refine cD (by dsimp only [pN, lk, Nat.reduceBEq, cond_true, cond_false, Option.getD_some, Option.getD_none]; first | done | exact rfl) ?_; refine aY ?_
    unfold eU
    repeat' (first | refine aS ?_ | refine yc ?_ | (show zn; refine aA ?_) | (show zv; refine fA ?_) | (show zV; refine y_cav0 ?_) | (show gA; first | refine aH (fun _ => ?_) fun _ => ?_ | refine gc_E (fun _ => ?_) fun _ => ?_ | refine gc_N (fun _ => ?_) fun _ => ?_ | refine aT ?_ | refine gc_B (fun _ => ?_) fun _ => ?_) | fail)
    refine jQ ?_
    exact ih () (aJq hx hy hq hxy)
   ·rw [decide_eq_false (aQm hx hy hxy)]
    refine cD (by dsimp only [pN, lk, Nat.reduceBEq, cond_true, cond_false, Option.getD_some, Option.getD_none]; first | done | exact rfl) ?_; refine aY ?_
    unfold eU
    repeat' (first | refine aS ?_ | refine yc ?_ | (show zn; refine aA ?_) | (show zv; refine fA ?_) | (show zV; refine y_cav0 ?_) | (show gA; first | refine aH (fun _ => ?_) fun _ => ?_ | refine gc_E (fun _ => ?_) fun _ => ?_ | refine gc_N (fun _ => ?_) fun _ => ?_ | refine aT ?_ | refine gc_B (fun _ => ?_) fun _ => ?_) | fail)
    rfl
  ·intro _ hq
   have he : a = b := by
    have e1 : b.take a.length = b := List.take_of_length_le (by omega)
    rwa [List.take_length, e1] at hq
   rw [decide_eq_true he]
   refine cD (by dsimp only [pN, lk, Nat.reduceBEq, cond_true, cond_false, Option.getD_some, Option.getD_none]; first | done | exact rfl) ?_; refine aY ?_
   unfold eU
   repeat' (first | refine aS ?_ | refine yc ?_ | (show zn; refine aA ?_) | (show zv; refine fA ?_) | (show zV; refine y_cav0 ?_) | (show gA; first | refine aH (fun _ => ?_) fun _ => ?_ | refine gc_E (fun _ => ?_) fun _ => ?_ | refine gc_N (fun _ => ?_) fun _ => ?_ | refine aT ?_ | refine gc_B (fun _ => ?_) fun _ => ?_) | fail)
   rfl
 ·rw [decide_eq_false (fun h => hl (by rw [h]))]
  repeat' (first | refine aS ?_ | refine yc ?_ | (show zn; refine aA ?_) | (show zv; refine fA ?_) | (show zV; refine y_cav0 ?_) | (show gA; first | refine aH (fun _ => ?_) fun _ => ?_ | refine gc_E (fun _ => ?_) fun _ => ?_ | refine gc_N (fun _ => ?_) fun _ => ?_ | refine aT ?_ | refine gc_B (fun _ => ?_) fun _ => ?_) | fail)
  rfl
theorem X3 {s : Option Nat} {H : aC} {a b : List Int} (ha : a.length ≤ 140737488355328) (hb : b.length ≤ 140737488355328) : Call tab s xG [.sl none a.length (enL a), .sl none b.length (enL b)] H = some (.bool (decide (a = b)), H) := by
 ((first | refine aJ ?_ | skip); refine bX (cf := mR) rfl rfl rfl rfl ?_; unfold mR; dsimp only [aB, Nat.reduceAdd, Nat.zero_add])
 by_cases hl : (a.length : Int) = (b.length : Int)
 ·repeat' (first | refine aS ?_ | refine yc ?_ | (show zn; refine aA ?_) | (show zv; refine fA ?_) | (show zV; refine y_cav0 ?_) | (show gA; first | refine aH (fun _ => ?_) fun _ => ?_ | refine gc_E (fun _ => ?_) fun _ => ?_ | refine gc_N (fun _ => ?_) fun _ => ?_ | refine aT ?_ | refine gc_B (fun _ => ?_) fun _ => ?_) | fail)
  refine xU a.length (fun i (_ : Unit) => [(5, .int .i64 i)]) (fun _ _ => []) (fun i _ => a.take i = b.take i) ?_ ?_ () rfl
  ·intro i _ hi hq ih
   obtain ⟨x, hx⟩ := xT hi
   obtain ⟨y, hy⟩ := xT (l := b) (i := i) (by omega)
   have hw : IntKind.i64.wrap ((i : Int) + 1) = ((i + 1 : Nat) : Int) := IntWalk.i64_in _ (by omega)
   have hil : (i : Int) < (a.length : Int) := by omega
   have hil' : i < b.length := by omega
   by_cases hxy : x = y
   ·refine cD (by dsimp only [pN, lk, Nat.reduceBEq, cond_true, cond_false, Option.getD_some, Option.getD_none]; first | done | exact rfl) ?_; refine aY ?_
    unfold kM
    repeat' (first | refine aS ?_ | refine yc ?_ | (show zn; refine aA ?_) | (show zv; refine fA ?_) | (show zV; refine y_cav0 ?_) | (show gA; first | refine aH (fun _ => ?_) fun _ => ?_ | refine gc_E (fun _ => ?_) fun _ => ?_ | refine gc_N (fun _ => ?_) fun _ => ?_ | refine aT ?_ | refine gc_B (fun _ => ?_) fun _ => ?_) | fail)
    refine jQ ?_
    exact ih () (aJq hx hy hq hxy)
   ·rw [decide_eq_false (aQm hx hy hxy)]
    refine cD (by dsimp only [pN, lk, Nat.reduceBEq, cond_true, cond_false, Option.getD_some, Option.getD_none]; first | done | exact rfl) ?_; refine aY ?_
    unfold kM
    repeat' (first | refine aS ?_ | refine yc ?_ | (show zn; refine aA ?_) | (show zv; refine fA ?_) | (show zV; refine y_cav0 ?_) | (show gA; first | refine aH (fun _ => ?_) fun _ => ?_ | refine gc_E (fun _ => ?_) fun _ => ?_ | refine gc_N (fun _ => ?_) fun _ => ?_ | refine aT ?_ | refine gc_B (fun _ => ?_) fun _ => ?_) | fail)
    rfl
  ·intro _ hq
   have he : a = b := by
    have e1 : b.take a.length = b := List.take_of_length_le (by omega)
    rwa [List.take_length, e1] at hq
   rw [decide_eq_true he]
   refine cD (by dsimp only [pN, lk, Nat.reduceBEq, cond_true, cond_false, Option.getD_some, Option.getD_none]; first | done | exact rfl) ?_; refine aY ?_
   unfold kM
   repeat' (first | refine aS ?_ | refine yc ?_ | (show zn; refine aA ?_) | (show zv; refine fA ?_) | (show zV; refine y_cav0 ?_) | (show gA; first | refine aH (fun _ => ?_) fun _ => ?_ | refine gc_E (fun _ => ?_) fun _ => ?_ | refine gc_N (fun _ => ?_) fun _ => ?_ | refine aT ?_ | refine gc_B (fun _ => ?_) fun _ => ?_) | fail)
   rfl
 ·rw [decide_eq_false (fun h => hl (by rw [h]))]
  repeat' (first | refine aS ?_ | refine yc ?_ | (show zn; refine aA ?_) | (show zv; refine fA ?_) | (show zV; refine y_cav0 ?_) | (show gA; first | refine aH (fun _ => ?_) fun _ => ?_ | refine gc_E (fun _ => ?_) fun _ => ?_ | refine gc_N (fun _ => ?_) fun _ => ?_ | refine aT ?_ | refine gc_B (fun _ => ?_) fun _ => ?_) | fail)
  rfl
theorem jG {s : Option Nat} {H : aC} {f : FuncId} {caps : List V} {p : Int → Bool} {l : List Int} (hr : V.rbL 0 caps = true) (hl : l.length ≤ 140737488355328) (hp : ∀ x ∈ l, Call tab (some 0) f ([.int .i64 x] ++ caps.map V.dis1) [] = some (.bool (p x), [])) (hpu : tab.pu f = true) :
 Call tab s jF [.sl none l.length (enL l), .fn f caps] H = some (.bool (l.any p), H) := by
 have hrf : V.rb 0 (.fn f caps) = true := by simp only [V.rb, hr]
 have hd : Dis (V.fn f caps) (.fn f caps) := inferInstance
 ((first | refine aJ ?_ | skip); refine bX (cf := dL) rfl rfl rfl rfl ?_; unfold dL; dsimp only [aB, Nat.reduceAdd, Nat.zero_add])
 repeat' (first | refine aS ?_ | refine yc ?_ (ha := by first | exact aJr hr hl hp hpu | assumption) | (show zn; refine aA ?_ (ha := by first | exact aJr hr hl hp hpu | assumption)) | (show zv; refine fA ?_ (ha := by first | exact aJr hr hl hp hpu | assumption)) | (show zV; refine y_cav0 ?_ (ha := by first | exact aJr hr hl hp hpu | assumption)) | (show gA; first | refine aH (fun _ => ?_) fun _ => ?_ | refine gc_E (fun _ => ?_) fun _ => ?_ | refine gc_N (fun _ => ?_) fun _ => ?_ | refine aT ?_ | refine gc_B (fun _ => ?_) fun _ => ?_) | fail)
 rw [aJp]
def aL4 (x : Int) : Bool := decide (0 ≤ x ∧ x ≤ 201)
theorem aJt {s : Option Nat} {H : aC} {x : Int} : Call tab s G6 [.int .i64 x] H = some (.bool (aL4 x), H) := by
 unfold aL4
 ((first | refine aJ ?_ | skip); refine bX (cf := tT) rfl rfl rfl rfl ?_; unfold tT; dsimp only [aB, Nat.reduceAdd, Nat.zero_add])
 repeat' (first | refine aS ?_ | refine yc ?_ | (show zn; refine aA ?_) | (show zv; refine fA ?_) | (show zV; refine y_cav0 ?_) | (show gA; first | refine aH (fun _ => ?_) fun _ => ?_ | refine gc_E (fun _ => ?_) fun _ => ?_ | refine gc_N (fun _ => ?_) fun _ => ?_ | refine aT ?_ | refine gc_B (fun _ => ?_) fun _ => ?_) | fail)
 all_goals first | (with_reducible rfl) | (simp only [Option.some.injEq, Prod.mk.injEq, V.bool.injEq, V.tup.injEq, V.int.injEq, List.cons.injEq, and_true, true_and]; first | done | (rw [Bool.eq_iff_iff]; simp only [decide_eq_true_eq, Bool.false_eq_true, Bool.true_eq_false, false_iff, iff_false, true_iff, iff_true, Bool.not_eq_true, decide_eq_false_iff_not, Bool.and_eq_true, Bool.or_eq_true]; omega) | omega)
theorem uB {s : Option Nat} {H : aC} {x : Int} : Call tab s yK [.int .i64 x] H = some (.bool (!aL4 x), H) := by
 ((first | refine aJ ?_ | skip); refine bX (cf := oE) rfl rfl rfl rfl ?_; unfold oE; dsimp only [aB, Nat.reduceAdd, Nat.zero_add])
 repeat' (first | refine aS ?_ | refine yc ?_ (ha := by first | exact aJt | assumption) | (show zn; refine aA ?_ (ha := by first | exact aJt | assumption)) | (show zv; refine fA ?_ (ha := by first | exact aJt | assumption)) | (show zV; refine y_cav0 ?_ (ha := by first | exact aJt | assumption)) | (show gA; first | refine aH (fun _ => ?_) fun _ => ?_ | refine gc_E (fun _ => ?_) fun _ => ?_ | refine gc_N (fun _ => ?_) fun _ => ?_ | refine aT ?_ | refine gc_B (fun _ => ?_) fun _ => ?_) | fail)
 rfl
instance (l : List Int) : Decidable (fI l) := inferInstanceAs (Decidable (_ ∧ _))
theorem aQn {l : List Int} : (!l.any fun x => !aL4 x) = decide (∀ x ∈ l, 0 ≤ x ∧ x ≤ 201) := by
 rw [Bool.eq_iff_iff]
 simp [aL4]
theorem gO {s : Option Nat} {H : aC} {l : List Int} (hl : l.length ≤ 140737488355328) : Call tab s r6 [.sl none l.length (enL l)] H = some (.bool (decide (fI l)), H) := by
 ((first | refine aJ ?_ | skip); refine bX (cf := rJ) rfl rfl rfl rfl ?_; unfold rJ; dsimp only [aB, Nat.reduceAdd, Nat.zero_add])
 by_cases h1 : 1 ≤ l.length ∧ l.length ≤ 6
 ·have : decide (fI l) = (!l.any fun x => !aL4 x) := by rw [aQn]; unfold fI; rw [Bool.eq_iff_iff]; simp [h1]
  rw [this]
  repeat' (first | refine aS ?_ | refine yc ?_ (ha := by first | exact jG (caps := []) eK hl (fun _ _ => uB) rfl | assumption) | (show zn; refine aA ?_ (ha := by first | exact jG (caps := []) eK hl (fun _ _ => uB) rfl | assumption)) | (show zv; refine fA ?_ (ha := by first | exact jG (caps := []) eK hl (fun _ _ => uB) rfl | assumption)) | (show zV; refine y_cav0 ?_ (ha := by first | exact jG (caps := []) eK hl (fun _ _ => uB) rfl | assumption)) | (show gA; first | refine aH (fun _ => ?_) fun _ => ?_ | refine gc_E (fun _ => ?_) fun _ => ?_ | refine gc_N (fun _ => ?_) fun _ => ?_ | refine aT ?_ | refine gc_B (fun _ => ?_) fun _ => ?_) | fail)
  rfl
 ·rw [decide_eq_false (fun h => h1 ⟨h.1, h.2.1⟩)]
  repeat' (first | refine aS ?_ | refine yc ?_ (ha := by first | exact jG (caps := []) eK hl (fun _ _ => uB) rfl | assumption) | (show zn; refine aA ?_ (ha := by first | exact jG (caps := []) eK hl (fun _ _ => uB) rfl | assumption)) | (show zv; refine fA ?_ (ha := by first | exact jG (caps := []) eK hl (fun _ _ => uB) rfl | assumption)) | (show zV; refine y_cav0 ?_ (ha := by first | exact jG (caps := []) eK hl (fun _ _ => uB) rfl | assumption)) | (show gA; first | refine aH (fun _ => ?_) fun _ => ?_ | refine gc_E (fun _ => ?_) fun _ => ?_ | refine gc_N (fun _ => ?_) fun _ => ?_ | refine aT ?_ | refine gc_B (fun _ => ?_) fun _ => ?_) | fail)
  all_goals first | rfl | (exfalso; omega)
theorem gP {s : Option Nat} {H : aC} {l : List Int} : Call tab s F7 [.sl none l.length (enL l)] H = some (.bool (decide (fI l)), H) := by
 ((first | refine aJ ?_ | skip); refine bX (cf := tN) rfl rfl rfl rfl ?_; unfold tN; dsimp only [aB, Nat.reduceAdd, Nat.zero_add])
 by_cases h1 : 1 ≤ l.length ∧ l.length ≤ 6
 ·repeat' (first | refine aS ?_ | refine yc ?_ | (show zn; refine aA ?_) | (show zv; refine fA ?_) | (show zV; refine y_cav0 ?_) | (show gA; first | refine aH (fun _ => ?_) fun _ => ?_ | refine gc_E (fun _ => ?_) fun _ => ?_ | refine gc_N (fun _ => ?_) fun _ => ?_ | refine aT ?_ | refine gc_B (fun _ => ?_) fun _ => ?_) | fail)
  refine xU l.length (fun i (_ : Unit) => [(3, .int .i64 i)]) (fun _ _ => []) (fun i _ => ∀ j, j < i → ∀ x, l[j]? = some x → 0 ≤ x ∧ x ≤ 201) ?_ ?_ () (fun j hj => by omega)
  ·intro i _ hi hq ih
   obtain ⟨x, hx⟩ := xT hi
   have hw : IntKind.i64.wrap ((i : Int) + 1) = ((i + 1 : Nat) : Int) := IntWalk.i64_in _ (by omega)
   have hil : (i : Int) < (l.length : Int) := by omega
   by_cases hxy : 0 ≤ x ∧ x ≤ 201
   ·refine cD (by dsimp only [pN, lk, Nat.reduceBEq, cond_true, cond_false, Option.getD_some, Option.getD_none]; first | done | exact rfl) ?_; refine aY ?_
    unfold pS
    repeat' (first | refine aS ?_ | refine yc ?_ | (show zn; refine aA ?_) | (show zv; refine fA ?_) | (show zV; refine y_cav0 ?_) | (show gA; first | refine aH (fun _ => ?_) fun _ => ?_ | refine gc_E (fun _ => ?_) fun _ => ?_ | refine gc_N (fun _ => ?_) fun _ => ?_ | refine aT ?_ | refine gc_B (fun _ => ?_) fun _ => ?_) | fail)
    refine jQ ?_
    refine ih () fun j hj y hy => ?_
    by_cases e : j = i
    ·subst e; rw [hx] at hy; cases hy; exact hxy
    ·exact hq j (by omega) y hy
   ·rw [decide_eq_false (fun h => hxy (h.2.2 x (List.mem_of_getElem? hx)))]
    refine cD (by dsimp only [pN, lk, Nat.reduceBEq, cond_true, cond_false, Option.getD_some, Option.getD_none]; first | done | exact rfl) ?_; refine aY ?_
    unfold pS
    repeat' (first | refine aS ?_ | refine yc ?_ | (show zn; refine aA ?_) | (show zv; refine fA ?_) | (show zV; refine y_cav0 ?_) | (show gA; first | refine aH (fun _ => ?_) fun _ => ?_ | refine gc_E (fun _ => ?_) fun _ => ?_ | refine gc_N (fun _ => ?_) fun _ => ?_ | refine aT ?_ | refine gc_B (fun _ => ?_) fun _ => ?_) | fail)
    all_goals first | rfl | (exfalso; omega)
  ·intro _ hq
   have hok : fI l := ⟨h1.1, h1.2, fun x hx => by obtain ⟨j, hj⟩ := List.getElem?_of_mem hx; exact hq j (List.getElem?_eq_some_iff.1 hj).1 x hj⟩
   rw [decide_eq_true hok]
   refine cD (by dsimp only [pN, lk, Nat.reduceBEq, cond_true, cond_false, Option.getD_some, Option.getD_none]; first | done | exact rfl) ?_; refine aY ?_
   unfold pS
   repeat' (first | refine aS ?_ | refine yc ?_ | (show zn; refine aA ?_) | (show zv; refine fA ?_) | (show zV; refine y_cav0 ?_) | (show gA; first | refine aH (fun _ => ?_) fun _ => ?_ | refine gc_E (fun _ => ?_) fun _ => ?_ | refine gc_N (fun _ => ?_) fun _ => ?_ | refine aT ?_ | refine gc_B (fun _ => ?_) fun _ => ?_) | fail)
   rfl
 ·rw [decide_eq_false (fun h => h1 ⟨h.1, h.2.1⟩)]
  repeat' (first | refine aS ?_ | refine yc ?_ | (show zn; refine aA ?_) | (show zv; refine fA ?_) | (show zV; refine y_cav0 ?_) | (show gA; first | refine aH (fun _ => ?_) fun _ => ?_ | refine gc_E (fun _ => ?_) fun _ => ?_ | refine gc_N (fun _ => ?_) fun _ => ?_ | refine aT ?_ | refine gc_B (fun _ => ?_) fun _ => ?_) | fail)
  all_goals first | rfl | (exfalso; omega)
end Go.Abs
