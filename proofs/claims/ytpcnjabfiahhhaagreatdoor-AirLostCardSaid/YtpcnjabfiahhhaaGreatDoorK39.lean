/- A part of the proof of RowAirFits, RowAirHeard, RowAirOrder, RowAirLost: lemmas alone, without conditions. -/
import Derived.Test.YtpcnjabfiahhhaaGreatDoorK36
set_option linter.all false
namespace Go.Abs
open Go.Proofs.YtpcnjabfiahhhaaGreatDoor
set_option maxHeartbeats 8000000 in
def aMs {s : Option Nat} {H : aB} (x : Nums) : A20 (fun k p => Call tab s xT [(pA k x).v, .int .i64 (p : Int)] H = some (.sl (some 4) (fQ k p).length (enL (fQ k p)), H)) := by constructor <;> exact dU.2 ⟨60, by kernel_rfl⟩
end Go.Abs
