/- A part of the proof of RowAirFits, RowAirHeard, RowAirOrder, RowAirLost: lemmas alone, without conditions. -/
import Derived.Test.YtpcnjabfiahhhaaGreatDoorK27
import Derived.Test.YtpcnjabfiahhhaaGreatDoorK23
set_option linter.all false
namespace Go.Abs
open Go.Proofs.YtpcnjabfiahhhaaGreatDoor
attribute [local irreducible] enL R RR dF cZ lV dE dG mP apply dB eI aX aZ cO aW fB aP aN cK bN gL cA V.rb V.rbL
section
variable {H : aB} {lm id w : Nat} {b : List UInt8} {x y z : Int}
end
theorem aS4 {s : Option Nat} {H : aB} {b : Bool} : Call tab s N0 [.bool b] H = some (.int .i64 (aNj b), H) := by
 ((first | refine aC ?_ | skip); refine bE (cf := zW) rfl rfl rfl rfl ?_; unfold zW; dsimp only [aA, Nat.reduceAdd, Nat.zero_add])
 cases b
 all_goals repeat' (first | refine aF ?_ | refine yc ?_ | refine sG (fun _ => ?_) fun _ => ?_ | refine aG ?_ | refine sH (fun _ => ?_) fun _ => ?_ | fail)
 all_goals rfl
end Go.Abs
