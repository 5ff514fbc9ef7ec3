/- A part of the proof of RowAirFits, RowAirHeard, RowAirOrder, RowAirLost: lemmas alone, without conditions. -/
import Derived.Test.YtpcnjabfiahhhaaGreatDoorK36
set_option linter.all false
namespace Go.Abs
open Go.Proofs.YtpcnjabfiahhhaaGreatDoor
set_option maxHeartbeats 8000000 in
def xB {s : Option Nat} {H : aB} (x : Nums) : A8 (fun k => Call tab s cG [(pA k x).v] H = some (.tup [.int .i64 0, .int .i64 0], H)) := by constructor <;> exact dU.2 ⟨60, by kernel_rfl⟩
set_option maxHeartbeats 8000000 in
def aTs {s : Option Nat} {H : aB} (x : Nums) : A20 (fun k p => Call tab s tV [(pA k x).v, .int .i64 (p : Int)] H = some (.sl (some 4) (fQ k p).length (enL (fQ k p)), H)) := by constructor <;> exact dU.2 ⟨60, by kernel_rfl⟩
end Go.Abs
