/-
  The law StorePlays tells true at every input, and its input reads as it did.
  Conditions: none.
-/
import Derived.Test.YtcfefgeheibadaaRows
import Derived.Test.YtcfefgeheibadaaStPlays
import Derived.Test.YtcfefgeheibadaaAbsR2
import Derived.ProofKit
namespace Go.Proofs.Ytcfefgeheibadaa
open Go.ChangeShapes Go.WideShapes Go.ChangeAt Go.RowKit Go.Abs

theorem storePlays_own : ownKnob Try.prog.godebug = none := by kernel_rfl
theorem storePlays_laidOut : laidOutB Try.prog = true := by kernel_rfl

set_option maxRecDepth 100000 in
theorem storePlays_lifted (os : Os) (started : os.Started) (H : Type) (enc : TypeId × Value → H) :
    ReturnsInHanded {} Try.checked os 11 .any (Rows.storePlaysSpec.pre6 enc Try.prog Try.f11 Rows.storePlaysRow.domain false) (Rows.storePlaysSpec.post enc Try.prog Try.f11 false true false false) := by
  refine returnsInHanded_of_change_shaped (C := Try.checked) storePlays_own started (by kernel_rfl) Try.func11
    (ChangeSpec.witness6 (enc := enc) (C := Try.checked) false ⟨#[], #[.int .i64 0, .slice none 0 0], []⟩ 8 (by kernel_rfl) (by kernel_rfl) (by kernel_rfl) (by kernel_rfl)) ?_
  intro W base args ds gs before hval hW _ hwt _ _
  exact law_contract (P := Try.prog) (T := tab) (pure := pureF) tab_ok storePlays_laidOut (f := 11) (fn := Try.f11) (s := Rows.storePlaysSpec) (tys := [.int .i64, .sl tyDeed]) (by kernel_rfl) (by kernel_rfl) (by kernel_rfl) rfl
    (fun ds h => match ds, h with | [a0, a1], _ => rfl) (fun _ h => storePlays h) W base args ds gs before hval hW hwt

theorem storePlays_holds : Rows.StorePlaysSaid :=
  OpenClaim.holds_of_wide 11 Try.f11 rfl rfl rfl rfl rfl rfl rfl ⟨rfl, rfl, rfl, rfl, rfl⟩ rfl rfl rfl rfl rfl (by kernel_rfl) Try.func11 (by kernel_rfl)
    (of_decide_eq_true (by kernel_rfl)) (by unfold Func.isWrapper; first | (rw [if_pos (by decide +kernel)]; kernel_rfl) | (rw [if_neg (by decide +kernel)]; exact ⟨rfl, rfl⟩))
    (fun os started H enc _ => storePlays_lifted os started H enc)

#print axioms storePlays_holds
end Go.Proofs.Ytcfefgeheibadaa
