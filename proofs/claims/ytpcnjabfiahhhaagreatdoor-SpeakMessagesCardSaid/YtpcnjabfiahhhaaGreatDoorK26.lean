/- A part of the proof of RowSpeakOffers, RowSpeakMessages: lemmas alone, without conditions. -/
import Derived.Test.YtpcnjabfiahhhaaGreatDoorK25
set_option linter.all false
namespace Go.Abs
open Go.Proofs.YtpcnjabfiahhhaaGreatDoor
attribute [local irreducible] enL R RR fP fB pX fK fQ pU apply fT gQ bW bZ eJ bR iL bG bD eC cR kD dO V.rb V.rbL
theorem aBf {a b : Frame} {v : Option (V × aC)} {H : aC} (h : ¬ a = b) (hv : v = some (.bool false, H)) : v = some (.bool (decide (a = b)), H) := by rw [decide_eq_false h, hv]
theorem aTj {a b : Frame} {v : Option (V × aC)} {H : aC} (h : a = b) (hv : v = some (.bool true, H)) : v = some (.bool (decide (a = b)), H) := by rw [decide_eq_true h, hv]
set_option maxRecDepth 100000 in
set_option maxHeartbeats 4000000 in
theorem gK {s : Option Nat} {H : aC} {a b : Frame} (ha : a.ages.length ≤ 140737488355328) (hb : b.ages.length ≤ 140737488355328) : Call tab s r5 [a.v, b.v] H = some (.bool (decide (a = b)), H) := by
 unfold Frame.v
 ((first | refine aJ ?_ | skip); refine bX (cf := rI) rfl rfl rfl rfl ?_; unfold rI; dsimp only [aB, Nat.reduceAdd, Nat.zero_add])
 repeat' (first | refine aS ?_ | refine yc ?_ (ha := by first | exact aJs ha hb | assumption) | (show zn; refine aA ?_ (ha := by first | exact aJs ha hb | assumption)) | (show gA; first | refine aH (fun _ => ?_) fun _ => ?_ | refine gc_E (fun _ => ?_) fun _ => ?_ | refine gc_N (fun _ => ?_) fun _ => ?_ | refine aT ?_ | refine gc_B (fun _ => ?_) fun _ => ?_) | fail)
 all_goals first
  | exact aBf (fun h => by subst h; first | contradiction | (simp at *; done)) rfl
  | (refine aBf (fun h => ?_) rfl; subst h; simp_all; done)
  | skip
 all_goals (
  rename_i hbody
  by_cases hbb : a.body = b.body
  ·refine aTj ?_ (by rw [hbb]; simp)
   cases a; cases b; simp_all
  ·refine aBf (fun h => hbb (by rw [h])) (by simp [hbb]))
end Go.Abs
namespace Go.Abs
open Go.Proofs.YtpcnjabfiahhhaaGreatDoor
attribute [local irreducible] enL R RR fP fB pX fK fQ pU apply fT gQ bW bZ eJ bR iL bG bD eC cR kD dO V.rb V.rbL
set_option maxRecDepth 100000 in
set_option maxHeartbeats 4000000 in
theorem gI {s : Option Nat} {H : aC} {a b : Frame} (ha : a.ages.length ≤ 140737488355328) (hb : b.ages.length ≤ 140737488355328) : Call tab s F1 [a.v, b.v] H = some (.bool (decide (a = b)), H) := by
 unfold Frame.v
 ((first | refine aJ ?_ | skip); refine bX (cf := tB) rfl rfl rfl rfl ?_; unfold tB; dsimp only [aB, Nat.reduceAdd, Nat.zero_add])
 repeat' (first | refine aS ?_ | refine yc ?_ (ha := by first | exact X3 ha hb | assumption) | (show zn; refine aA ?_ (ha := by first | exact X3 ha hb | assumption)) | (show gA; first | refine aH (fun _ => ?_) fun _ => ?_ | refine gc_E (fun _ => ?_) fun _ => ?_ | refine gc_N (fun _ => ?_) fun _ => ?_ | refine aT ?_ | refine gc_B (fun _ => ?_) fun _ => ?_) | fail)
 all_goals first
  | exact aBf (fun h => by subst h; first | contradiction | (simp at *; done)) rfl
  | (refine aBf (fun h => ?_) rfl; subst h; simp_all; done)
  | skip
 all_goals (
  rename_i hbody
  by_cases hbb : a.body = b.body
  ·refine aTj ?_ (by rw [hbb]; simp)
   cases a; cases b; simp_all
  ·refine aBf (fun h => hbb (by rw [h])) (by simp [hbb]))
end Go.Abs
