/- A part of the proof of RowAirFits, RowAirHeard, RowAirOrder, RowAirLost: lemmas alone, without conditions. -/
import Derived.Test.YtpcnjabfiahhhaaGreatDoorK36
set_option linter.all false
namespace Go.Abs
open Go.Proofs.YtpcnjabfiahhhaaGreatDoor
set_option maxHeartbeats 8000000 in
def aYq {s : Option Nat} {H : aB} (x : Nums) : A20 (fun k p => Call tab s xV [(pA k x).v, .int .i64 (p : Int), .sl none (fQ k p).length (enL (fQ k p))] H = some (.sl none (jK k p).length (enL (jK k p)), H)) := by constructor <;> exact dU.2 ⟨60, by kernel_rfl⟩
set_option maxHeartbeats 8000000 in
def aUi {s : Option Nat} {H : aB} (x : Nums) : A20 (fun k p => Call tab s xZ [(pA k x).v, .int .i64 (p : Int)] H = some (.int .i64 (fQ k p).length, H)) := by constructor <;> exact dU.2 ⟨60, by kernel_rfl⟩
def slC : C := match c_ref5_Slots.body with
 | .seq _ (.seq _ (.seq _ (.seq _ c))) => c
 | _ => .nop
set_option maxHeartbeats 8000000 in
def aYr {s : Option Nat} {H : aB} (x : Nums) : A20 (fun k p => (d7 (s0 tab 60) (some 0) 60 slC [(1, .int .i64 (p : Int)), (2, .ptr 0 0), (5, .nls), (6, .sl none (fQ k p).length (enL (fQ k p)))] [Cel.enc (pA k x)]).bind (mP .P [.t 4] s H []) = some (.sl none (jK k p).length (enL (jK k p)), H)) := by constructor <;> kernel_rfl
end Go.Abs
