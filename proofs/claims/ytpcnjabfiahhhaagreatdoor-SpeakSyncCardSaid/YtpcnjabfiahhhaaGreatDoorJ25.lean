/- A part of the proof of RowSpeakSync: lemmas alone, without conditions. -/
import Derived.Test.YtpcnjabfiahhhaaGreatDoorJ24
set_option linter.all false
namespace Go.Abs
open Go.Proofs.YtpcnjabfiahhhaaGreatDoor
attribute [local irreducible] enL R RR gT fU rC gG gU qS apply fW gZ bQ cC fB bN iN bK bG eS cV lA dU V.rb V.rbL
def J1 {α : Type} (p : α → Bool) : List α → Nat → Int
 | [], _ => -1
 | x :: l, n => if p x then (n : Int) else J1 p l (n + 1)
theorem j9 {α : Type} {p : α → Bool} {x : α} {l : List α} {n : Nat} (h : p x = true) : J1 p (x :: l) n = n := by rw [J1, if_pos h]
theorem s7 {α : Type} {p : α → Bool} {x : α} {l : List α} {n : Nat} (h : p x = false) : J1 p (x :: l) n = J1 p l (n + 1) := by rw [J1, if_neg (by rw [h]; decide)]
theorem J2 {α : Type} {l : List α} {i : Nat} {x : α} (h : l[i]? = some x) : l.drop i = x :: l.drop (i + 1) := by
 obtain ⟨hl, hx⟩ := List.getElem?_eq_some_iff.1 h
 rw [List.drop_eq_getElem_cons hl, hx]
theorem aH2 {α : Type} {p : α → Bool} : ∀ {l : List α} {n : Nat}, decide (0 ≤ J1 p l n) = l.any p
 | [], _ => rfl
 | x :: l, n => by
   cases h : p x
   ·rw [s7 h, aH2, List.any_cons, h, Bool.false_or]
   ·rw [j9 h, List.any_cons, h, Bool.true_or]; exact decide_eq_true (by omega)
theorem aH3 {α : Type} {a b : List α} {i : Nat} {x y : α} (ha : a[i]? = some x) (hb : b[i]? = some y) (h : a.take i = b.take i) (hxy : x = y) : a.take (i + 1) = b.take (i + 1) := by
 rw [← oB ha, ← oB hb, h, hxy]
theorem aKa {α : Type} {a b : List α} {i : Nat} {x y : α} (ha : a[i]? = some x) (hb : b[i]? = some y) (hxy : ¬ x = y) : ¬ a = b := fun h => by
 subst h; rw [ha] at hb; exact hxy (Option.some.inj hb)
theorem aH4 {s : Option Nat} {H : aB} {f : FuncId} {caps : List V} {p : Int → Bool} {l : List Int} (hr : V.rbL 0 caps = true) (hl : l.length ≤ 140737488355328) (hp : ∀ x ∈ l, Call tab (some 0) f ([.int .i64 x] ++ caps.map V.dis1) [] = some (.bool (p x), [])) (hpu : tab.pu f = true) :
 Call tab s jZ [.sl none l.length (enL l), .fn f caps] H = some (.int .i64 (J1 p l 0), H) := by
 have hrf : V.rb 0 (.fn f caps) = true := by simp only [V.rb, hr]
 ((first | refine aJ ?_ | skip); refine cB (cf := dP) rfl rfl rfl rfl ?_; unfold dP; dsimp only [aC, Nat.reduceAdd, Nat.zero_add])
 repeat' (first | refine aS ?_ | refine yc ?_ | (show zn; refine aA ?_) | (show zv; refine eU ?_) | (show zV; refine y_cav0 ?_) | (show gA; first | refine aH (fun _ => ?_) fun _ => ?_ | refine gc_E (fun _ => ?_) fun _ => ?_ | refine gc_N (fun _ => ?_) fun _ => ?_ | refine aT ?_ | refine gc_B (fun _ => ?_) fun _ => ?_) | fail)
 refine yP l.length (fun i (_ : Unit) => [(8, .int .i64 i)]) (fun _ _ => []) (fun i _ => J1 p l 0 = J1 p (l.drop i) i) ?_ ?_ () rfl
 ·intro i _ hi hq ih
  obtain ⟨x, hx⟩ := yO hi
  have hd := hp x (List.mem_of_getElem? hx)
  rw [J2 hx] at hq
  have hw : IntKind.i64.wrap ((i : Int) + 1) = ((i + 1 : Nat) : Int) := IntWalk.i64_in _ (by omega)
  have hil : (i : Int) < (l.length : Int) := by omega
  cases hb : p x
  ·rw [s7 hb] at hq
   rw [hb] at hd
   refine cG (by dsimp only [qG, lk, Nat.reduceBEq, cond_true, cond_false, Option.getD_some, Option.getD_none]; first | done | exact rfl) ?_; refine bB ?_
   unfold dH
   repeat' (first | refine aS ?_ | refine yc ?_ (ha := by first | exact hd | assumption) | (show zn; refine aA ?_ (ha := by first | exact hd | assumption)) | (show zv; refine eU ?_ (ha := by first | exact hd | assumption)) | (show zV; refine y_cav0 ?_ (ha := by first | exact hd | assumption)) | (show gA; first | refine aH (fun _ => ?_) fun _ => ?_ | refine gc_E (fun _ => ?_) fun _ => ?_ | refine gc_N (fun _ => ?_) fun _ => ?_ | refine aT ?_ | refine gc_B (fun _ => ?_) fun _ => ?_) | fail)
   refine jW ?_
   exact ih () hq
  ·rw [j9 hb] at hq
   rw [hb] at hd
   refine cG (by dsimp only [qG, lk, Nat.reduceBEq, cond_true, cond_false, Option.getD_some, Option.getD_none]; first | done | exact rfl) ?_; refine bB ?_
   unfold dH
   repeat' (first | refine aS ?_ | refine yc ?_ (ha := by first | exact hd | assumption) | (show zn; refine aA ?_ (ha := by first | exact hd | assumption)) | (show zv; refine eU ?_ (ha := by first | exact hd | assumption)) | (show zV; refine y_cav0 ?_ (ha := by first | exact hd | assumption)) | (show gA; first | refine aH (fun _ => ?_) fun _ => ?_ | refine gc_E (fun _ => ?_) fun _ => ?_ | refine gc_N (fun _ => ?_) fun _ => ?_ | refine aT ?_ | refine gc_B (fun _ => ?_) fun _ => ?_) | fail)
   rw [hq]
 ·intro _ hq
  rw [List.drop_length] at hq
  refine cG (by dsimp only [qG, lk, Nat.reduceBEq, cond_true, cond_false, Option.getD_some, Option.getD_none]; first | done | exact rfl) ?_; refine bB ?_
  unfold dH
  repeat' (first | refine aS ?_ | refine yc ?_ | (show zn; refine aA ?_) | (show zv; refine eU ?_) | (show zV; refine y_cav0 ?_) | (show gA; first | refine aH (fun _ => ?_) fun _ => ?_ | refine gc_E (fun _ => ?_) fun _ => ?_ | refine gc_N (fun _ => ?_) fun _ => ?_ | refine aT ?_ | refine gc_B (fun _ => ?_) fun _ => ?_) | fail)
  rw [hq]; rfl
theorem aH5 {s : Option Nat} {H : aB} {a b : List Int} (ha : a.length ≤ 140737488355328) (hb : b.length ≤ 140737488355328) : Call tab s mX [.sl none a.length (enL a), .sl none b.length (enL b)] H = some (.bool (decide (a = b)), H) := by
 ((first | refine aJ ?_ | skip); refine cB (cf := fC) rfl rfl rfl rfl ?_; unfold fC; dsimp only [aC, Nat.reduceAdd, Nat.zero_add])
 by_cases hl : (a.length : Int) = (b.length : Int)
 ·repeat' (first | refine aS ?_ | refine yc ?_ | (show zn; refine aA ?_) | (show zv; refine eU ?_) | (show zV; refine y_cav0 ?_) | (show gA; first | refine aH (fun _ => ?_) fun _ => ?_ | refine gc_E (fun _ => ?_) fun _ => ?_ | refine gc_N (fun _ => ?_) fun _ => ?_ | refine aT ?_ | refine gc_B (fun _ => ?_) fun _ => ?_) | fail)
  refine yP a.length (fun i (_ : Unit) => [(13, .int .i64 i)]) (fun _ _ => []) (fun i _ => a.take i = b.take i) ?_ ?_ () rfl
  ·intro i _ hi hq ih
   obtain ⟨x, hx⟩ := yO hi
   obtain ⟨y, hy⟩ := yO (l := b) (i := i) (by omega)
   have hw : IntKind.i64.wrap ((i : Int) + 1) = ((i + 1 : Nat) : Int) := IntWalk.i64_in _ (by omega)
   have hil : (i : Int) < (a.length : Int) := by omega
   have hil' : i < b.length := by omega
   by_cases hxy : x = y
   ·refine cG (by dsimp only [qG, lk, Nat.reduceBEq, cond_true, cond_false, Option.getD_some, Option.getD_none]; first | done | exact rfl) ?_; refine bB ?_
    unfold eC
    repeat' (first | refine aS ?_ | refine yc ?_ | (show zn; refine aA ?_) | (show zv; refine eU ?_) | (show zV; refine y_cav0 ?_) | (show gA; first | refine aH (fun _ => ?_) fun _ => ?_ | refine gc_E (fun _ => ?_) fun _ => ?_ | refine gc_N (fun _ => ?_) fun _ => ?_ | refine aT ?_ | refine gc_B (fun _ => ?_) fun _ => ?_) | fail)
    refine jW ?_
    exact ih () (aH3 hx hy hq hxy)
   ·rw [decide_eq_false (aKa hx hy hxy)]
    refine cG (by dsimp only [qG, lk, Nat.reduceBEq, cond_true, cond_false, Option.getD_some, Option.getD_none]; first | done | exact rfl) ?_; refine bB ?_
    unfold eC
    repeat' (first | refine aS ?_ | refine yc ?_ | (show zn; refine aA ?_) | (show zv; refine eU ?_) | (show zV; refine y_cav0 ?_) | (show gA; first | refine aH (fun _ => ?_) fun _ => ?_ | refine gc_E (fun _ => ?_) fun _ => ?_ | refine gc_N (fun _ => ?_) fun _ => ?_ | refine aT ?_ | refine gc_B (fun _ => ?_) fun _ => ?_) | fail)
    rfl
  ·intro _ hq
   have he : a = b := by
    have e1 : b.take a.length = b := List.take_of_length_le (by omega)
    rwa [List.take_length, e1] at hq
   rw [decide_eq_true he]
   refine cG (by dsimp only [qG, lk, Nat.reduceBEq, cond_true, cond_false, Option.getD_some, Option.getD_none]; first | done | exact rfl) ?_; refine bB ?_
   unfold eC
   repeat' (first | refine aS ?_ | refine yc ?_ | (show zn; refine aA ?_) | (show zv; refine eU ?_) | (show zV; refine y_cav0 ?_) | (show gA; first | refine aH (fun _ => ?_) fun _ => ?_ | refine gc_E (fun _ => ?_) fun _ => ?_ | refine gc_N (fun _ => ?_) fun _ => ?_ | refine aT ?_ | refine gc_B (fun _ => ?_) fun _ => ?_) | fail)
   rfl
 ·rw [decide_eq_false (fun h => hl (by rw [h]))]
  repeat' (first | refine aS ?_ | refine yc ?_ | (show zn; refine aA ?_) | (show zv; refine eU ?_) | (show zV; refine y_cav0 ?_) | (show gA; first | refine aH (fun _ => ?_) fun _ => ?_ | refine gc_E (fun _ => ?_) fun _ => ?_ | refine gc_N (fun _ => ?_) fun _ => ?_ | refine aT ?_ | refine gc_B (fun _ => ?_) fun _ => ?_) | fail)
  rfl
theorem J3 {s : Option Nat} {H : aB} {a b : List Int} (ha : a.length ≤ 140737488355328) (hb : b.length ≤ 140737488355328) : Call tab s wA [.sl none a.length (enL a), .sl none b.length (enL b)] H = some (.bool (decide (a = b)), H) := by
 ((first | refine aJ ?_ | skip); refine cB (cf := lX) rfl rfl rfl rfl ?_; unfold lX; dsimp only [aC, Nat.reduceAdd, Nat.zero_add])
 by_cases hl : (a.length : Int) = (b.length : Int)
 ·repeat' (first | refine aS ?_ | refine yc ?_ | (show zn; refine aA ?_) | (show zv; refine eU ?_) | (show zV; refine y_cav0 ?_) | (show gA; first | refine aH (fun _ => ?_) fun _ => ?_ | refine gc_E (fun _ => ?_) fun _ => ?_ | refine gc_N (fun _ => ?_) fun _ => ?_ | refine aT ?_ | refine gc_B (fun _ => ?_) fun _ => ?_) | fail)
  refine yP a.length (fun i (_ : Unit) => [(5, .int .i64 i)]) (fun _ _ => []) (fun i _ => a.take i = b.take i) ?_ ?_ () rfl
  ·intro i _ hi hq ih
   obtain ⟨x, hx⟩ := yO hi
   obtain ⟨y, hy⟩ := yO (l := b) (i := i) (by omega)
   have hw : IntKind.i64.wrap ((i : Int) + 1) = ((i + 1 : Nat) : Int) := IntWalk.i64_in _ (by omega)
   have hil : (i : Int) < (a.length : Int) := by omega
   have hil' : i < b.length := by omega
   by_cases hxy : x = y
   ·refine cG (by dsimp only [qG, lk, Nat.reduceBEq, cond_true, cond_false, Option.getD_some, Option.getD_none]; first | done | exact rfl) ?_; refine bB ?_
    unfold jQ
    repeat' (first | refine aS ?_ | refine yc ?_ | (show zn; refine aA ?_) | (show zv; refine eU ?_) | (show zV; refine y_cav0 ?_) | (show gA; first | refine aH (fun _ => ?_) fun _ => ?_ | refine gc_E (fun _ => ?_) fun _ => ?_ | refine gc_N (fun _ => ?_) fun _ => ?_ | refine aT ?_ | refine gc_B (fun _ => ?_) fun _ => ?_) | fail)
    refine jW ?_
    exact ih () (aH3 hx hy hq hxy)
   ·rw [decide_eq_false (aKa hx hy hxy)]
    refine cG (by dsimp only [qG, lk, Nat.reduceBEq, cond_true, cond_false, Option.getD_some, Option.getD_none]; first | done | exact rfl) ?_; refine bB ?_
    unfold jQ
    repeat' (first | refine aS ?_ | refine yc ?_ | (show zn; refine aA ?_) | (show zv; refine eU ?_) | (show zV; refine y_cav0 ?_) | (show gA; first | refine aH (fun _ => ?_) fun _ => ?_ | refine gc_E (fun _ => ?_) fun _ => ?_ | refine gc_N (fun _ => ?_) fun _ => ?_ | refine aT ?_ | refine gc_B (fun _ => ?_) fun _ => ?_) | fail)
    rfl
  ·intro _ hq
   have he : a = b := by
    have e1 : b.take a.length = b := List.take_of_length_le (by omega)
    rwa [List.take_length, e1] at hq
   rw [decide_eq_true he]
   refine cG (by dsimp only [qG, lk, Nat.reduceBEq, cond_true, cond_false, Option.getD_some, Option.getD_none]; first | done | exact rfl) ?_; refine bB ?_
   unfold jQ
   repeat' (first | refine aS ?_ | refine yc ?_ | (show zn; refine aA ?_) | (show zv; refine eU ?_) | (show zV; refine y_cav0 ?_) | (show gA; first | refine aH (fun _ => ?_) fun _ => ?_ | refine gc_E (fun _ => ?_) fun _ => ?_ | refine gc_N (fun _ => ?_) fun _ => ?_ | refine aT ?_ | refine gc_B (fun _ => ?_) fun _ => ?_) | fail)
   rfl
 ·rw [decide_eq_false (fun h => hl (by rw [h]))]
  repeat' (first | refine aS ?_ | refine yc ?_ | (show zn; refine aA ?_) | (show zv; refine eU ?_) | (show zV; refine y_cav0 ?_) | (show gA; first | refine aH (fun _ => ?_) fun _ => ?_ | refine gc_E (fun _ => ?_) fun _ => ?_ | refine gc_N (fun _ => ?_) fun _ => ?_ | refine aT ?_ | refine gc_B (fun _ => ?_) fun _ => ?_) | fail)
  rfl
theorem iI {s : Option Nat} {H : aB} {f : FuncId} {caps : List V} {p : Int → Bool} {l : List Int} (hr : V.rbL 0 caps = true) (hl : l.length ≤ 140737488355328) (hp : ∀ x ∈ l, Call tab (some 0) f ([.int .i64 x] ++ caps.map V.dis1) [] = some (.bool (p x), [])) (hpu : tab.pu f = true) :
 Call tab s iH [.sl none l.length (enL l), .fn f caps] H = some (.bool (l.any p), H) := by
 have hrf : V.rb 0 (.fn f caps) = true := by simp only [V.rb, hr]
 have hd : Dis (V.fn f caps) (.fn f caps) := inferInstance
 ((first | refine aJ ?_ | skip); refine cB (cf := dB) rfl rfl rfl rfl ?_; unfold dB; dsimp only [aC, Nat.reduceAdd, Nat.zero_add])
 repeat' (first | refine aS ?_ | refine yc ?_ (ha := by first | exact aH4 hr hl hp hpu | assumption) | (show zn; refine aA ?_ (ha := by first | exact aH4 hr hl hp hpu | assumption)) | (show zv; refine eU ?_ (ha := by first | exact aH4 hr hl hp hpu | assumption)) | (show zV; refine y_cav0 ?_ (ha := by first | exact aH4 hr hl hp hpu | assumption)) | (show gA; first | refine aH (fun _ => ?_) fun _ => ?_ | refine gc_E (fun _ => ?_) fun _ => ?_ | refine gc_N (fun _ => ?_) fun _ => ?_ | refine aT ?_ | refine gc_B (fun _ => ?_) fun _ => ?_) | fail)
 rw [aH2]
def aIa (x : Int) : Bool := decide (0 ≤ x ∧ x ≤ 201)
theorem aH6 {s : Option Nat} {H : aB} {x : Int} : Call tab s A8 [.int .i64 x] H = some (.bool (aIa x), H) := by
 unfold aIa
 ((first | refine aJ ?_ | skip); refine cB (cf := sC) rfl rfl rfl rfl ?_; unfold sC; dsimp only [aC, Nat.reduceAdd, Nat.zero_add])
 repeat' (first | refine aS ?_ | refine yc ?_ | (show zn; refine aA ?_) | (show zv; refine eU ?_) | (show zV; refine y_cav0 ?_) | (show gA; first | refine aH (fun _ => ?_) fun _ => ?_ | refine gc_E (fun _ => ?_) fun _ => ?_ | refine gc_N (fun _ => ?_) fun _ => ?_ | refine aT ?_ | refine gc_B (fun _ => ?_) fun _ => ?_) | fail)
 all_goals first | (with_reducible rfl) | (simp only [Option.some.injEq, Prod.mk.injEq, V.bool.injEq, V.tup.injEq, V.int.injEq, List.cons.injEq, and_true, true_and]; first | done | (rw [Bool.eq_iff_iff]; simp only [decide_eq_true_eq, Bool.false_eq_true, Bool.true_eq_false, false_iff, iff_false, true_iff, iff_true, Bool.not_eq_true, decide_eq_false_iff_not, Bool.and_eq_true, Bool.or_eq_true]; omega) | omega)
theorem rS {s : Option Nat} {H : aB} {x : Int} : Call tab s xD [.int .i64 x] H = some (.bool (!aIa x), H) := by
 ((first | refine aJ ?_ | skip); refine cB (cf := nC) rfl rfl rfl rfl ?_; unfold nC; dsimp only [aC, Nat.reduceAdd, Nat.zero_add])
 repeat' (first | refine aS ?_ | refine yc ?_ (ha := by first | exact aH6 | assumption) | (show zn; refine aA ?_ (ha := by first | exact aH6 | assumption)) | (show zv; refine eU ?_ (ha := by first | exact aH6 | assumption)) | (show zV; refine y_cav0 ?_ (ha := by first | exact aH6 | assumption)) | (show gA; first | refine aH (fun _ => ?_) fun _ => ?_ | refine gc_E (fun _ => ?_) fun _ => ?_ | refine gc_N (fun _ => ?_) fun _ => ?_ | refine aT ?_ | refine gc_B (fun _ => ?_) fun _ => ?_) | fail)
 rfl
instance (l : List Int) : Decidable (eP l) := inferInstanceAs (Decidable (_ ∧ _))
theorem aKb {l : List Int} : (!l.any fun x => !aIa x) = decide (∀ x ∈ l, 0 ≤ x ∧ x ≤ 201) := by
 rw [Bool.eq_iff_iff]
 simp [aIa]
theorem fN {s : Option Nat} {H : aB} {l : List Int} (hl : l.length ≤ 140737488355328) : Call tab s j4 [.sl none l.length (enL l)] H = some (.bool (decide (eP l)), H) := by
 ((first | refine aJ ?_ | skip); refine cB (cf := pV) rfl rfl rfl rfl ?_; unfold pV; dsimp only [aC, Nat.reduceAdd, Nat.zero_add])
 by_cases h1 : 1 ≤ l.length ∧ l.length ≤ 6
 ·have : decide (eP l) = (!l.any fun x => !aIa x) := by rw [aKb]; unfold eP; rw [Bool.eq_iff_iff]; simp [h1]
  rw [this]
  repeat' (first | refine aS ?_ | refine yc ?_ (ha := by first | exact iI (caps := []) eO hl (fun _ _ => rS) rfl | assumption) | (show zn; refine aA ?_ (ha := by first | exact iI (caps := []) eO hl (fun _ _ => rS) rfl | assumption)) | (show zv; refine eU ?_ (ha := by first | exact iI (caps := []) eO hl (fun _ _ => rS) rfl | assumption)) | (show zV; refine y_cav0 ?_ (ha := by first | exact iI (caps := []) eO hl (fun _ _ => rS) rfl | assumption)) | (show gA; first | refine aH (fun _ => ?_) fun _ => ?_ | refine gc_E (fun _ => ?_) fun _ => ?_ | refine gc_N (fun _ => ?_) fun _ => ?_ | refine aT ?_ | refine gc_B (fun _ => ?_) fun _ => ?_) | fail)
  rfl
 ·rw [decide_eq_false (fun h => h1 ⟨h.1, h.2.1⟩)]
  repeat' (first | refine aS ?_ | refine yc ?_ (ha := by first | exact iI (caps := []) eO hl (fun _ _ => rS) rfl | assumption) | (show zn; refine aA ?_ (ha := by first | exact iI (caps := []) eO hl (fun _ _ => rS) rfl | assumption)) | (show zv; refine eU ?_ (ha := by first | exact iI (caps := []) eO hl (fun _ _ => rS) rfl | assumption)) | (show zV; refine y_cav0 ?_ (ha := by first | exact iI (caps := []) eO hl (fun _ _ => rS) rfl | assumption)) | (show gA; first | refine aH (fun _ => ?_) fun _ => ?_ | refine gc_E (fun _ => ?_) fun _ => ?_ | refine gc_N (fun _ => ?_) fun _ => ?_ | refine aT ?_ | refine gc_B (fun _ => ?_) fun _ => ?_) | fail)
  all_goals first | rfl | (exfalso; omega)
theorem fO {s : Option Nat} {H : aB} {l : List Int} : Call tab s A0 [.sl none l.length (enL l)] H = some (.bool (decide (eP l)), H) := by
 ((first | refine aJ ?_ | skip); refine cB (cf := sP) rfl rfl rfl rfl ?_; unfold sP; dsimp only [aC, Nat.reduceAdd, Nat.zero_add])
 by_cases h1 : 1 ≤ l.length ∧ l.length ≤ 6
 ·repeat' (first | refine aS ?_ | refine yc ?_ | (show zn; refine aA ?_) | (show zv; refine eU ?_) | (show zV; refine y_cav0 ?_) | (show gA; first | refine aH (fun _ => ?_) fun _ => ?_ | refine gc_E (fun _ => ?_) fun _ => ?_ | refine gc_N (fun _ => ?_) fun _ => ?_ | refine aT ?_ | refine gc_B (fun _ => ?_) fun _ => ?_) | fail)
  refine yP l.length (fun i (_ : Unit) => [(3, .int .i64 i)]) (fun _ _ => []) (fun i _ => ∀ j, j < i → ∀ x, l[j]? = some x → 0 ≤ x ∧ x ≤ 201) ?_ ?_ () (fun j hj => by omega)
  ·intro i _ hi hq ih
   obtain ⟨x, hx⟩ := yO hi
   have hw : IntKind.i64.wrap ((i : Int) + 1) = ((i + 1 : Nat) : Int) := IntWalk.i64_in _ (by omega)
   have hil : (i : Int) < (l.length : Int) := by omega
   by_cases hxy : 0 ≤ x ∧ x ≤ 201
   ·refine cG (by dsimp only [qG, lk, Nat.reduceBEq, cond_true, cond_false, Option.getD_some, Option.getD_none]; first | done | exact rfl) ?_; refine bB ?_
    unfold oS
    repeat' (first | refine aS ?_ | refine yc ?_ | (show zn; refine aA ?_) | (show zv; refine eU ?_) | (show zV; refine y_cav0 ?_) | (show gA; first | refine aH (fun _ => ?_) fun _ => ?_ | refine gc_E (fun _ => ?_) fun _ => ?_ | refine gc_N (fun _ => ?_) fun _ => ?_ | refine aT ?_ | refine gc_B (fun _ => ?_) fun _ => ?_) | fail)
    refine jW ?_
    refine ih () fun j hj y hy => ?_
    by_cases e : j = i
    ·subst e; rw [hx] at hy; cases hy; exact hxy
    ·exact hq j (by omega) y hy
   ·rw [decide_eq_false (fun h => hxy (h.2.2 x (List.mem_of_getElem? hx)))]
    refine cG (by dsimp only [qG, lk, Nat.reduceBEq, cond_true, cond_false, Option.getD_some, Option.getD_none]; first | done | exact rfl) ?_; refine bB ?_
    unfold oS
    repeat' (first | refine aS ?_ | refine yc ?_ | (show zn; refine aA ?_) | (show zv; refine eU ?_) | (show zV; refine y_cav0 ?_) | (show gA; first | refine aH (fun _ => ?_) fun _ => ?_ | refine gc_E (fun _ => ?_) fun _ => ?_ | refine gc_N (fun _ => ?_) fun _ => ?_ | refine aT ?_ | refine gc_B (fun _ => ?_) fun _ => ?_) | fail)
    all_goals first | rfl | (exfalso; omega)
  ·intro _ hq
   have hok : eP l := ⟨h1.1, h1.2, fun x hx => by obtain ⟨j, hj⟩ := List.getElem?_of_mem hx; exact hq j (List.getElem?_eq_some_iff.1 hj).1 x hj⟩
   rw [decide_eq_true hok]
   refine cG (by dsimp only [qG, lk, Nat.reduceBEq, cond_true, cond_false, Option.getD_some, Option.getD_none]; first | done | exact rfl) ?_; refine bB ?_
   unfold oS
   repeat' (first | refine aS ?_ | refine yc ?_ | (show zn; refine aA ?_) | (show zv; refine eU ?_) | (show zV; refine y_cav0 ?_) | (show gA; first | refine aH (fun _ => ?_) fun _ => ?_ | refine gc_E (fun _ => ?_) fun _ => ?_ | refine gc_N (fun _ => ?_) fun _ => ?_ | refine aT ?_ | refine gc_B (fun _ => ?_) fun _ => ?_) | fail)
   rfl
 ·rw [decide_eq_false (fun h => h1 ⟨h.1, h.2.1⟩)]
  repeat' (first | refine aS ?_ | refine yc ?_ | (show zn; refine aA ?_) | (show zv; refine eU ?_) | (show zV; refine y_cav0 ?_) | (show gA; first | refine aH (fun _ => ?_) fun _ => ?_ | refine gc_E (fun _ => ?_) fun _ => ?_ | refine gc_N (fun _ => ?_) fun _ => ?_ | refine aT ?_ | refine gc_B (fun _ => ?_) fun _ => ?_) | fail)
  all_goals first | rfl | (exfalso; omega)
end Go.Abs
