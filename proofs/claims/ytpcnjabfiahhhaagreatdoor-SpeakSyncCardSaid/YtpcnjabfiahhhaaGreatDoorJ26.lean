/- A part of the proof of RowSpeakSync: lemmas alone, without conditions. -/
import Derived.Test.YtpcnjabfiahhhaaGreatDoorJ25
set_option linter.all false
namespace Go.Abs
open Go.Proofs.YtpcnjabfiahhhaaGreatDoor
attribute [local irreducible] enL R RR gT fU rC gG gU qS apply fW gZ bQ cC fB bN iN bK bG eS cV lA dU V.rb V.rbL
theorem aAq {a b : Frame} {v : Option (V × aB)} {H : aB} (h : ¬ a = b) (hv : v = some (.bool false, H)) : v = some (.bool (decide (a = b)), H) := by rw [decide_eq_false h, hv]
theorem aRn {a b : Frame} {v : Option (V × aB)} {H : aB} (h : a = b) (hv : v = some (.bool true, H)) : v = some (.bool (decide (a = b)), H) := by rw [decide_eq_true h, hv]
set_option maxRecDepth 100000 in
set_option maxHeartbeats 4000000 in
theorem fS {s : Option Nat} {H : aB} {a b : Frame} (ha : a.ages.length ≤ 140737488355328) (hb : b.ages.length ≤ 140737488355328) : Call tab s j0 [a.v, b.v] H = some (.bool (decide (a = b)), H) := by
 unfold Frame.v
 ((first | refine aJ ?_ | skip); refine cB (cf := pU) rfl rfl rfl rfl ?_; unfold pU; dsimp only [aC, Nat.reduceAdd, Nat.zero_add])
 repeat' (first | refine aS ?_ | refine yc ?_ (ha := by first | exact aH5 ha hb | assumption) | (show zn; refine aA ?_ (ha := by first | exact aH5 ha hb | assumption)) | (show gA; first | refine aH (fun _ => ?_) fun _ => ?_ | refine gc_E (fun _ => ?_) fun _ => ?_ | refine gc_N (fun _ => ?_) fun _ => ?_ | refine aT ?_ | refine gc_B (fun _ => ?_) fun _ => ?_) | fail)
 all_goals first
  | exact aAq (fun h => by subst h; first | contradiction | (simp at *; done)) rfl
  | (refine aAq (fun h => ?_) rfl; subst h; simp_all; done)
  | skip
 all_goals (
  rename_i hbody
  by_cases hbb : a.body = b.body
  ·refine aRn ?_ (by rw [hbb]; simp)
   cases a; cases b; simp_all
  ·refine aAq (fun h => hbb (by rw [h])) (by simp [hbb]))
end Go.Abs
namespace Go.Abs
open Go.Proofs.YtpcnjabfiahhhaaGreatDoor
attribute [local irreducible] enL R RR gT fU rC gG gU qS apply fW gZ bQ cC fB bN iN bK bG eS cV lA dU V.rb V.rbL
set_option maxRecDepth 100000 in
set_option maxHeartbeats 4000000 in
theorem fP {s : Option Nat} {H : aB} {a b : Frame} (ha : a.ages.length ≤ 140737488355328) (hb : b.ages.length ≤ 140737488355328) : Call tab s y9 [a.v, b.v] H = some (.bool (decide (a = b)), H) := by
 unfold Frame.v
 ((first | refine aJ ?_ | skip); refine cB (cf := sX) rfl rfl rfl rfl ?_; unfold sX; dsimp only [aC, Nat.reduceAdd, Nat.zero_add])
 repeat' (first | refine aS ?_ | refine yc ?_ (ha := by first | exact J3 ha hb | assumption) | (show zn; refine aA ?_ (ha := by first | exact J3 ha hb | assumption)) | (show gA; first | refine aH (fun _ => ?_) fun _ => ?_ | refine gc_E (fun _ => ?_) fun _ => ?_ | refine gc_N (fun _ => ?_) fun _ => ?_ | refine aT ?_ | refine gc_B (fun _ => ?_) fun _ => ?_) | fail)
 all_goals first
  | exact aAq (fun h => by subst h; first | contradiction | (simp at *; done)) rfl
  | (refine aAq (fun h => ?_) rfl; subst h; simp_all; done)
  | skip
 all_goals (
  rename_i hbody
  by_cases hbb : a.body = b.body
  ·refine aRn ?_ (by rw [hbb]; simp)
   cases a; cases b; simp_all
  ·refine aAq (fun h => hbb (by rw [h])) (by simp [hbb]))
end Go.Abs
