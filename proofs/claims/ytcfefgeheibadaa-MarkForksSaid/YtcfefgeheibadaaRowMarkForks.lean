/-
  The law MarkForks tells true at every input, and its input reads as it did.
  Conditions: none.
-/
import Derived.Test.YtcfefgeheibadaaRows
import Derived.Test.YtcfefgeheibadaaMkForks
import Derived.Test.YtcfefgeheibadaaAbsR2
import Derived.ProofKit
namespace Go.Proofs.Ytcfefgeheibadaa
open Go.ChangeShapes Go.WideShapes Go.ChangeAt Go.RowKit Go.Abs

theorem markForks_own : ownKnob Try.prog.godebug = none := by kernel_rfl
theorem markForks_laidOut : laidOutB Try.prog = true := by kernel_rfl

set_option maxRecDepth 100000 in
theorem markForks_lifted (os : Os) (started : os.Started) (H : Type) (enc : TypeId × Value → H) :
    ReturnsInHanded {} Try.checked os 5 .any (Rows.markForksSpec.pre6 enc Try.prog Try.f5 Rows.markForksRow.domain false) (Rows.markForksSpec.post enc Try.prog Try.f5 false true false false) := by
  refine returnsInHanded_of_change_shaped (C := Try.checked) markForks_own started (by kernel_rfl) Try.func5
    (ChangeSpec.witness6 (enc := enc) (C := Try.checked) false ⟨#[], #[.slice none 0 0, .slice none 0 0, .slice none 0 0], []⟩ 8 (by kernel_rfl) (by kernel_rfl) (by kernel_rfl) (by kernel_rfl)) ?_
  intro W base args ds gs before hval hW _ hwt _ _
  exact law_contract (P := Try.prog) (T := tab) (pure := pureF) tab_ok markForks_laidOut (f := 5) (fn := Try.f5) (s := Rows.markForksSpec) (tys := [.sl tyItem, .sl tyItem, .sl tyItem]) (by kernel_rfl) (by kernel_rfl) (by kernel_rfl) rfl
    (fun ds h => match ds, h with | [a0, a1, a2], _ => rfl) (fun _ h => markForks h) W base args ds gs before hval hW hwt

theorem markForks_holds : Rows.MarkForksSaid :=
  OpenClaim.holds_of_wide 5 Try.f5 rfl rfl rfl rfl rfl rfl rfl ⟨rfl, rfl, rfl, rfl, rfl⟩ rfl rfl rfl rfl rfl (by kernel_rfl) Try.func5 (by kernel_rfl)
    (of_decide_eq_true (by kernel_rfl)) (by unfold Func.isWrapper; first | (rw [if_pos (by decide +kernel)]; kernel_rfl) | (rw [if_neg (by decide +kernel)]; exact ⟨rfl, rfl⟩))
    (fun os started H enc _ => markForks_lifted os started H enc)

#print axioms markForks_holds
end Go.Proofs.Ytcfefgeheibadaa
