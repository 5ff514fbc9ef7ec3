/-
  The law AirFits tells true at every input, and its input reads as it did.
  Conditions: none.
-/
import Derived.Test.YtpcnjabfiahhhaaGreatDoorRows
import Derived.Test.YtpcnjabfiahhhaaGreatDoorK48
import Derived.ProofKit
import Derived.Test.YtpcnjabfiahhhaaGreatDoorCards
import Derived.Test.YtpcnjabfiahhhaaGreatDoorTie
import Derived.ChangeSame
import Derived.ChangeVars
import Derived.JoinedOf
import Derived.RowKit
import Derived.LaidLaws
import Derived.LaidHandle
import Derived.LaidMore
import Derived.Stop.Joined
import Derived.SevenTiedAt
set_option linter.all false
namespace Go.Proofs.YtpcnjabfiahhhaaGreatDoor
open Go.ChangeShapes Go.WideShapes Go.ChangeAt Go.RowKit Go.Abs
theorem airFits_own : ownKnob Tryz.prog.godebug = none := by kernel_rfl
theorem airFits_laidOut : laidOutB Tryz.prog = true := by kernel_rfl
theorem airFits_met (os : Os) (args : Array Value) : laidMetH Tryz.prog Rows.airFitsRow.laid ((World.doorLaid Tryz.prog 35 os).forCall (fun _ _ => 0) ⟨#[], args, []⟩).memory :=
 laidMetH_of_parts3 (fuel := 8) (laidMet_of_run' 8 (by kernel_rfl) (by kernel_rfl)) (by kernel_rfl) (by kernel_rfl)
set_option maxRecDepth 100000 in
theorem airFits_lifted (os : Os) (started : os.Started) (H : Type) (enc : TypeId × Value → H) :
 ReturnsInHanded {} Tryz.checked os 13 .any (fun w args => (Rows.airFitsSpec.pre enc Tryz.prog Tryz.f13 [] false w args ∧ laidMetH Tryz.prog Rows.airFitsRow.laid w) ∧ sizedMet enc Tryz.prog Tryz.f13 (OpenSpec.ofChange Rows.airFitsSpec) false w args) (Rows.airFitsSpec.post enc Tryz.prog Tryz.f13 false true false false) := by
 refine returnsInHanded_of_change_and (C := Tryz.checked) (X := fun w _ => laidMetH Tryz.prog Rows.airFitsRow.laid w) (fun _ _ _ hh h => h.of_heap hh) airFits_own started (by kernel_rfl) Tryz.func13
  (ChangeSpec.witness_shaped (enc := enc) (C := Tryz.checked) (os := os) (X := fun w _ => laidMetH Tryz.prog Rows.airFitsRow.laid w) false (World.doorLaid Tryz.prog 35 os) #[.int .i64 0, .int .i64 0, .int .i64 0, .agg #[.int .i64 0, .int .i64 0, .int .i64 0, .int .i64 0, .int .i64 0, .int .i64 0, .bool false, .int .i64 0, .int .i64 0, .slice none 0 0, .int .i64 0, .int .i64 0, .int .i64 0, .slice none 0 0]] 8 rfl (World.shaped_of_RefB (by kernel_rfl) (by kernel_rfl)) (by kernel_rfl) (by kernel_rfl) (by kernel_rfl) (airFits_met os _)) ?_
 intro W base args ds gs before hval hW _ hwt _ _
 exact rL (P := Tryz.prog) (T := tab) (pure := eM) aEg airFits_laidOut (f := 13) (fn := Tryz.f13) (s := Rows.airFitsSpec) (tys := [.int .i64, .int .i64, .int .i64, m4]) (by kernel_rfl) (by kernel_rfl) (by kernel_rfl) rfl
  (fun ds h => match ds, h with | [a0, a1, a2, a3], _ => rfl) (fun _ h => airFits h) W base args ds gs before hval hW hwt
theorem airFits_named : Tryz.pinned.checked.prog.funcNamed Rows.airFitsRow.func = some 13 := by kernel_rfl
theorem airFits_closed : joinedFacts Tryz.pinned.checked.prog 13 Tryz.f13 Rows.airFitsSpec Rows.airFitsRow = true := by kernel_rfl
theorem airFits_inst : Tryz.f13.isInstance Tryz.pinned.checked.prog Rows.airFitsRow.origin Rows.airFitsRow.targs := of_decide_eq_true (by kernel_rfl)
theorem airFits_wrap : Tryz.f13.isWrapper Tryz.pinned.checked.prog Rows.airFitsRow.wrapper Rows.airFitsRow.mainSum := by
 unfold Func.isWrapper; first | (rw [if_pos (by decide +kernel)]; kernel_rfl) | (rw [if_neg (by decide +kernel)]; exact ⟨rfl, rfl⟩)
theorem airFits_row : Rows.AirFitsSaid :=
 OpenClaim.holds_of_wide 13 Tryz.f13 rfl rfl rfl rfl rfl rfl rfl ⟨rfl, rfl, rfl, rfl, rfl⟩ rfl rfl rfl rfl rfl airFits_named Tryz.func13 airFits_closed airFits_inst airFits_wrap
  (fun os started H enc _ => airFits_lifted os started H enc)
theorem airFits_holds : Rows.AirFitsCardSaid :=
 Claim7.holds_tied_plain_at .later [] [.handle, .sentinel] true Rows.airFitsCard.stood.harness true
  airFits_row (fun _ h => by cases h) (by kernel_rfl) (fun _ h => by cases h) airFits_row_tie rfl ⟨rfl, rfl⟩ (by kernel_rfl) rfl
  (fun f fn hf hfn => by
   obtain rfl : f = 13 := Option.some.inj ((show Tryz.prog.funcNamed Rows.airFitsRow.func = some 13 by kernel_rfl).symm.trans hf) |>.symm
   obtain rfl : fn = Tryz.f13 := (Option.some.inj (Tryz.func13.symm.trans hfn)).symm
   refine ⟨by kernel_rfl, fun j t ht => ?_⟩
   have hall : (Tryz.f13.params.toList.all fun t => !Tryz.prog.wantsStandIn t) = true := by kernel_rfl
   have hm : t ∈ Tryz.f13.params.toList := Array.mem_toList_iff.2 (Array.mem_of_getElem? ht)
   exact (show Tryz.prog.wantsStandIn t = false by simpa using List.all_eq_true.1 hall t hm))
  (by kernel_rfl)
#print axioms airFits_holds
end Go.Proofs.YtpcnjabfiahhhaaGreatDoor
