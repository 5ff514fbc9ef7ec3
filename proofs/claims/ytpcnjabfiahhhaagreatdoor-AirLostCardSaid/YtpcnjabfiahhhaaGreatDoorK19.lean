/- A part of the proof of RowAirFits, RowAirHeard, RowAirOrder, RowAirLost: lemmas alone, without conditions. -/
import Derived.Test.YtpcnjabfiahhhaaGreatDoorK15
import Derived.Test.YtpcnjabfiahhhaaGreatDoorK16
import Derived.Test.YtpcnjabfiahhhaaGreatDoorK17
import Derived.Test.YtpcnjabfiahhhaaGreatDoorK18
set_option linter.all false
namespace Go.Proofs.YtpcnjabfiahhhaaGreatDoor
open Go.Abs
set_option maxRecDepth 100000
def bBc (f : FuncId) : Option CF := bif Nat.ble f 130 then (bif Nat.ble f 66 then (bif Nat.ble f 33 then (bif Nat.ble f 12 then y3 t1 f else bif Nat.ble f 21 then y3 t2 f else y3 t3 f) else bif Nat.ble f 44 then (bif Nat.ble f 38 then y3 t4 f else y3 t5 f) else bif Nat.ble f 63 then y3 t6 f else y3 t7 f) else bif Nat.ble f 84 then (bif Nat.ble f 69 then y3 t8 f else bif Nat.ble f 72 then y3 t9 f else y3 t10 f) else bif Nat.ble f 106 then (bif Nat.ble f 92 then y3 t11 f else y3 t12 f) else bif Nat.ble f 115 then y3 t13 f else y3 t14 f) else bif Nat.ble f 192 then (bif Nat.ble f 150 then (bif Nat.ble f 138 then y3 t15 f else bif Nat.ble f 139 then y3 t16 f else y3 t17 f) else bif Nat.ble f 174 then (bif Nat.ble f 159 then y3 t18 f else y3 t19 f) else bif Nat.ble f 185 then y3 t20 f else y3 t21 f) else bif Nat.ble f 211 then (bif Nat.ble f 197 then y3 t22 f else bif Nat.ble f 199 then y3 t23 f else y3 t24 f) else bif Nat.ble f 235 then (bif Nat.ble f 221 then y3 t25 f else y3 t26 f) else bif Nat.ble f 246 then y3 t27 f else y3 t28 f
def tab : Tab := { code := bBc, prim := fun f => none }
theorem aHq : Tryz.prog.follows .mixedOrders = true := by kernel_rfl
theorem aOh : pureL.all (fun f => tab.pu f) = true := by kernel_rfl
theorem aEg : TabOK Tryz.prog tab eM := by
  refine ⟨aHq, fun f cf _ => gZ (gZ (gZ (gZ (dM k1) (gZ (dM k2) (dM k3))) (gZ (gZ (dM k4) (dM k5)) (gZ (dM k6) (dM k7)))) (gZ (gZ (dM k8) (gZ (dM k9) (dM k10))) (gZ (gZ (dM k11) (dM k12)) (gZ (dM k13) (dM k14))))) (gZ (gZ (gZ (dM k15) (gZ (dM k16) (dM k17))) (gZ (gZ (dM k18) (dM k19)) (gZ (dM k20) (dM k21)))) (gZ (gZ (dM k22) (gZ (dM k23) (dM k24))) (gZ (gZ (dM k25) (dM k26)) (gZ (dM k27) (dM k28))))), fun f p h => ?_, fun f h => ?_⟩
  · cases h
  · exact List.all_eq_true.1 aOh f (by simpa [eM] using h)
end Go.Proofs.YtpcnjabfiahhhaaGreatDoor
