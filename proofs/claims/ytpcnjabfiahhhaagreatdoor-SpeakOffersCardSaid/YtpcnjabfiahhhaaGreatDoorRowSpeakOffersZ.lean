/-
  The law SpeakOffers tells true at every input, and its input reads as it did.
  Conditions: none.
-/
import Derived.Test.YtpcnjabfiahhhaaGreatDoorRows
import Derived.Test.YtpcnjabfiahhhaaGreatDoorK53
import Derived.Test.YtpcnjabfiahhhaaGreatDoorK50
import Derived.ProofKit
import Derived.Test.YtpcnjabfiahhhaaGreatDoorCards
import Derived.Test.YtpcnjabfiahhhaaGreatDoorTie
import Derived.ChangeSame
import Derived.ChangeVars
import Derived.JoinedOf
import Derived.RowKit
import Derived.LaidLaws
import Derived.LaidHandle
import Derived.LaidMore
import Derived.Stop.Joined
import Derived.SevenTiedAt
set_option linter.all false
namespace Go.Proofs.YtpcnjabfiahhhaaGreatDoor
open Go.ChangeShapes Go.WideShapes Go.ChangeAt Go.RowKit Go.Abs
theorem speakOffers_own : ownKnob Tryz.prog.godebug = none := by kernel_rfl
theorem speakOffers_laidOut : laidOutB Tryz.prog = true := by kernel_rfl
theorem speakOffers_met (os : Os) (args : Array Value) : laidMetH Tryz.prog Rows.speakOffersRow.laid ((World.doorLaid Tryz.prog 35 os).forCall (fun _ _ => 0) ⟨#[], args, []⟩).memory :=
 laidMetH_of_parts3 (fuel := 8) (laidMet_of_run' 8 (by kernel_rfl) (by kernel_rfl)) (by kernel_rfl) (by kernel_rfl)
set_option maxRecDepth 100000 in
theorem speakOffers_lifted (os : Os) (started : os.Started) (H : Type) (enc : TypeId × Value → H) :
 ReturnsInHanded {} Tryz.checked os 6 .any (fun w args => (Rows.speakOffersSpec.pre enc Tryz.prog Tryz.f6 [] false w args ∧ laidMetH Tryz.prog Rows.speakOffersRow.laid w) ∧ sizedMet enc Tryz.prog Tryz.f6 (OpenSpec.ofChange Rows.speakOffersSpec) false w args) (Rows.speakOffersSpec.post enc Tryz.prog Tryz.f6 false true false false) := by
 refine returnsInHanded_of_change_and (C := Tryz.checked) (X := fun w _ => laidMetH Tryz.prog Rows.speakOffersRow.laid w) (fun _ _ _ hh h => h.of_heap hh) speakOffers_own started (by kernel_rfl) Tryz.func6
  (ChangeSpec.witness_shaped (enc := enc) (C := Tryz.checked) (os := os) (X := fun w _ => laidMetH Tryz.prog Rows.speakOffersRow.laid w) false (World.doorLaid Tryz.prog 35 os) #[.int .i64 0, .int .i64 0, .int .i64 0, .agg #[.int .i64 0, .int .i64 0, .int .i64 0, .int .i64 0, .int .i64 0, .slice none 0 0, .int .i64 0, .int .i64 0], .agg #[.bool false, .int .i64 0, .int .i64 0, .slice none 0 0]] 8 rfl (World.shaped_of_RefB (by kernel_rfl) (by kernel_rfl)) (by kernel_rfl) (by kernel_rfl) (by kernel_rfl) (speakOffers_met os _)) ?_
 intro W base args ds gs before hval hW _ hwt _ _
 exact s3 (P := Tryz.prog) (T := tab) (pure := aK) aN6 speakOffers_laidOut (f := 6) (fn := Tryz.f6) (s := Rows.speakOffersSpec) (tys := [.int .i64, .int .i64, .int .i64, C6, aJw]) (by kernel_rfl) (by kernel_rfl) (by kernel_rfl) rfl
  (fun ds h => match ds, h with | [a0, a1, a2, a3, a4], _ => rfl) (fun _ h => speakOffers h) W base args ds gs before hval hW hwt
theorem speakOffers_named : Tryz.pinned.checked.prog.funcNamed Rows.speakOffersRow.func = some 6 := by kernel_rfl
theorem speakOffers_closed : joinedFacts Tryz.pinned.checked.prog 6 Tryz.f6 Rows.speakOffersSpec Rows.speakOffersRow = true := by kernel_rfl
theorem speakOffers_inst : Tryz.f6.isInstance Tryz.pinned.checked.prog Rows.speakOffersRow.origin Rows.speakOffersRow.targs := of_decide_eq_true (by kernel_rfl)
theorem speakOffers_wrap : Tryz.f6.isWrapper Tryz.pinned.checked.prog Rows.speakOffersRow.wrapper Rows.speakOffersRow.mainSum := by
 unfold Func.isWrapper; first | (rw [if_pos (by decide +kernel)]; kernel_rfl) | (rw [if_neg (by decide +kernel)]; exact ⟨rfl, rfl⟩)
theorem speakOffers_row : Rows.SpeakOffersSaid :=
 OpenClaim.holds_of_wide 6 Tryz.f6 rfl rfl rfl rfl rfl rfl rfl ⟨rfl, rfl, rfl, rfl, rfl⟩ rfl rfl rfl rfl rfl speakOffers_named Tryz.func6 speakOffers_closed speakOffers_inst speakOffers_wrap
  (fun os started H enc _ => speakOffers_lifted os started H enc)
theorem speakOffers_holds : Rows.SpeakOffersCardSaid :=
 Claim7.holds_tied_plain_at .later [] [.handle, .sentinel] true Rows.speakOffersCard.stood.harness true
  speakOffers_row (fun _ h => by cases h) (by kernel_rfl) (fun _ h => by cases h) speakOffers_row_tie rfl ⟨rfl, rfl⟩ (by kernel_rfl) rfl
  (fun f fn hf hfn => by
   obtain rfl : f = 6 := Option.some.inj ((show Tryz.prog.funcNamed Rows.speakOffersRow.func = some 6 by kernel_rfl).symm.trans hf) |>.symm
   obtain rfl : fn = Tryz.f6 := (Option.some.inj (Tryz.func6.symm.trans hfn)).symm
   refine ⟨by kernel_rfl, fun j t ht => ?_⟩
   have hall : (Tryz.f6.params.toList.all fun t => !Tryz.prog.wantsStandIn t) = true := by kernel_rfl
   have hm : t ∈ Tryz.f6.params.toList := Array.mem_toList_iff.2 (Array.mem_of_getElem? ht)
   exact (show Tryz.prog.wantsStandIn t = false by simpa using List.all_eq_true.1 hall t hm))
  (by kernel_rfl)
#print axioms speakOffers_holds
end Go.Proofs.YtpcnjabfiahhhaaGreatDoor
