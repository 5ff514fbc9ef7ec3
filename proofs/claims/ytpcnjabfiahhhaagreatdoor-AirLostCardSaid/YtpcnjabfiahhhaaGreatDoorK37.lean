/- A part of the proof of RowAirFits, RowAirHeard, RowAirOrder, RowAirLost: lemmas alone, without conditions. -/
import Derived.Test.YtpcnjabfiahhhaaGreatDoorK36
set_option linter.all false
namespace Go.Abs
open Go.Proofs.YtpcnjabfiahhhaaGreatDoor
set_option maxHeartbeats 8000000 in
def aYx {s : Option Nat} {H : aB} (x : Nums) : A8 (fun k => Call tab s xY [(pA k x).v] H = some (.tup [.int .i64 0, .int .i64 0], H)) := by constructor <;> exact dU.2 ⟨60, by kernel_rfl⟩
end Go.Abs
