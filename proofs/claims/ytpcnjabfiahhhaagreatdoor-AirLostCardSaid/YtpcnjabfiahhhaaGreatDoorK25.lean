/- A part of the proof of RowAirFits, RowAirHeard, RowAirOrder, RowAirLost: lemmas alone, without conditions. -/
import Derived.Test.YtpcnjabfiahhhaaGreatDoorK24
set_option linter.all false
namespace Go.Abs
open Go.Proofs.YtpcnjabfiahhhaaGreatDoor
attribute [local irreducible] enL R RR dF cZ lV dE dG mP apply dB eI aX aZ cO aW fB aP aN cK bN gL cA V.rb V.rbL
theorem aLm {a b : Frame} {v : Option (V × aB)} {H : aB} (h : ¬ a = b) (hv : v = some (.bool false, H)) : v = some (.bool (decide (a = b)), H) := by rw [decide_eq_false h, hv]
theorem aWr {a b : Frame} {v : Option (V × aB)} {H : aB} (h : a = b) (hv : v = some (.bool true, H)) : v = some (.bool (decide (a = b)), H) := by rw [decide_eq_true h, hv]
end Go.Abs
namespace Go.Abs
open Go.Proofs.YtpcnjabfiahhhaaGreatDoor
attribute [local irreducible] enL R RR dF cZ lV dE dG mP apply dB eI aX aZ cO aW fB aP aN cK bN gL cA V.rb V.rbL
set_option maxRecDepth 100000 in
set_option maxHeartbeats 4000000 in
theorem pS {s : Option Nat} {H : aB} {a b : Frame} (ha : a.ages.length ≤ 140737488355328) (hb : b.ages.length ≤ 140737488355328) : Call tab s d9 [a.v, b.v] H = some (.bool (decide (a = b)), H) := by
 unfold Frame.v
 ((first | refine aC ?_ | skip); refine bE (cf := zQ) rfl rfl rfl rfl ?_; unfold zQ; dsimp only [aA, Nat.reduceAdd, Nat.zero_add])
 repeat' (first | refine aF ?_ | refine yc ?_ (ha := by first | exact aGq ha hb | assumption) | refine sG (fun _ => ?_) fun _ => ?_ | refine aG ?_ | refine sH (fun _ => ?_) fun _ => ?_ | fail)
 all_goals first
  | exact aLm (fun h => by subst h; first | contradiction | (simp at *; done)) rfl
  | (refine aLm (fun h => ?_) rfl; subst h; simp_all; done)
  | skip
 all_goals (
  rename_i hbody
  by_cases hbb : a.body = b.body
  ·refine aWr ?_ (by rw [hbb]; simp)
   cases a; cases b; simp_all
  ·refine aLm (fun h => hbb (by rw [h])) (by simp [hbb]))
end Go.Abs
