/-
  The law StoreOrder tells true at every input, and its input reads as it did.
  Conditions: none.
-/
import Derived.Test.YtcfefgeheibadaaRows
import Derived.Test.YtcfefgeheibadaaStOrder
import Derived.Test.YtcfefgeheibadaaAbsR2
import Derived.ProofKit
namespace Go.Proofs.Ytcfefgeheibadaa
open Go.ChangeShapes Go.WideShapes Go.ChangeAt Go.RowKit Go.Abs

theorem storeOrder_own : ownKnob Try.prog.godebug = none := by kernel_rfl
theorem storeOrder_laidOut : laidOutB Try.prog = true := by kernel_rfl

set_option maxRecDepth 100000 in
theorem storeOrder_lifted (os : Os) (started : os.Started) (H : Type) (enc : TypeId × Value → H) :
    ReturnsInHanded {} Try.checked os 7 .any (Rows.storeOrderSpec.pre6 enc Try.prog Try.f7 Rows.storeOrderRow.domain false) (Rows.storeOrderSpec.post enc Try.prog Try.f7 false true false false) := by
  refine returnsInHanded_of_change_shaped (C := Try.checked) storeOrder_own started (by kernel_rfl) Try.func7
    (ChangeSpec.witness6 (enc := enc) (C := Try.checked) false ⟨#[], #[.int .u8 0, .slice none 0 0, .slice none 0 0], []⟩ 8 (by kernel_rfl) (by kernel_rfl) (by kernel_rfl) (by kernel_rfl)) ?_
  intro W base args ds gs before hval hW _ hwt _ _
  exact law_contract (P := Try.prog) (T := tab) (pure := pureF) tab_ok storeOrder_laidOut (f := 7) (fn := Try.f7) (s := Rows.storeOrderSpec) (tys := [.int .u8, .sl (.sl (.int .u8)), .sl (.int .u8)]) (by kernel_rfl) (by kernel_rfl) (by kernel_rfl) rfl
    (fun ds h => match ds, h with | [a0, a1, a2], _ => rfl) (fun _ h => storeOrder h) W base args ds gs before hval hW hwt

theorem storeOrder_holds : Rows.StoreOrderSaid :=
  OpenClaim.holds_of_wide 7 Try.f7 rfl rfl rfl rfl rfl rfl rfl ⟨rfl, rfl, rfl, rfl, rfl⟩ rfl rfl rfl rfl rfl (by kernel_rfl) Try.func7 (by kernel_rfl)
    (of_decide_eq_true (by kernel_rfl)) (by unfold Func.isWrapper; first | (rw [if_pos (by decide +kernel)]; kernel_rfl) | (rw [if_neg (by decide +kernel)]; exact ⟨rfl, rfl⟩))
    (fun os started H enc _ => storeOrder_lifted os started H enc)

#print axioms storeOrder_holds
end Go.Proofs.Ytcfefgeheibadaa
