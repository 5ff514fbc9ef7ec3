/-
  The law SpeakMessages tells true at every input, and its input reads as it did.
  Conditions: none.
-/
import Derived.Test.YtpcnjabfiahhhaaGreatDoorRows
import Derived.Test.YtpcnjabfiahhhaaGreatDoorM1
import Derived.Test.YtpcnjabfiahhhaaGreatDoorK50
import Derived.ProofKit
import Derived.Test.YtpcnjabfiahhhaaGreatDoorCards
import Derived.Test.YtpcnjabfiahhhaaGreatDoorTie
import Derived.ChangeSame
import Derived.ChangeVars
import Derived.JoinedOf
import Derived.RowKit
import Derived.LaidLaws
import Derived.LaidHandle
import Derived.LaidMore
import Derived.Stop.Joined
import Derived.SevenTiedAt
set_option linter.all false
namespace Go.Proofs.YtpcnjabfiahhhaaGreatDoor
open Go.ChangeShapes Go.WideShapes Go.ChangeAt Go.RowKit Go.Abs
theorem speakMessages_own : ownKnob Tryz.prog.godebug = none := by kernel_rfl
theorem speakMessages_laidOut : laidOutB Tryz.prog = true := by kernel_rfl
theorem speakMessages_met (os : Os) (args : Array Value) : laidMetH Tryz.prog Rows.speakMessagesRow.laid ((World.doorLaid Tryz.prog 35 os).forCall (fun _ _ => 0) ⟨#[], args, []⟩).memory :=
 laidMetH_of_parts3 (fuel := 8) (laidMet_of_run' 8 (by kernel_rfl) (by kernel_rfl)) (by kernel_rfl) (by kernel_rfl)
set_option maxRecDepth 100000 in
theorem speakMessages_lifted (os : Os) (started : os.Started) (H : Type) (enc : TypeId × Value → H) :
 ReturnsInHanded {} Tryz.checked os 5 .any (fun w args => (Rows.speakMessagesSpec.pre enc Tryz.prog Tryz.f5 [] false w args ∧ laidMetH Tryz.prog Rows.speakMessagesRow.laid w) ∧ sizedMet enc Tryz.prog Tryz.f5 (OpenSpec.ofChange Rows.speakMessagesSpec) false w args) (Rows.speakMessagesSpec.post enc Tryz.prog Tryz.f5 false true false false) := by
 refine returnsInHanded_of_change_and (C := Tryz.checked) (X := fun w _ => laidMetH Tryz.prog Rows.speakMessagesRow.laid w) (fun _ _ _ hh h => h.of_heap hh) speakMessages_own started (by kernel_rfl) Tryz.func5
  (ChangeSpec.witness_shaped (enc := enc) (C := Tryz.checked) (os := os) (X := fun w _ => laidMetH Tryz.prog Rows.speakMessagesRow.laid w) false (World.doorLaid Tryz.prog 35 os) #[.int .i64 0, .int .i64 0, .int .i64 0, .agg #[.int .i64 0, .int .i64 0, .int .i64 0, .int .i64 0, .int .i64 0, .slice none 0 0, .int .i64 0, .int .i64 0], .int .i64 0, .agg #[.int .i64 0, .int .i64 0, .int .i64 0, .slice none 0 0]] 8 rfl (World.shaped_of_RefB (by kernel_rfl) (by kernel_rfl)) (by kernel_rfl) (by kernel_rfl) (by kernel_rfl) (speakMessages_met os _)) ?_
 intro W base args ds gs before hval hW _ hwt _ _
 exact s3 (P := Tryz.prog) (T := tab) (pure := aK) aN6 speakMessages_laidOut (f := 5) (fn := Tryz.f5) (s := Rows.speakMessagesSpec) (tys := [.int .i64, .int .i64, .int .i64, C6, .int .i64, aCh]) (by kernel_rfl) (by kernel_rfl) (by kernel_rfl) rfl
  (fun ds h => match ds, h with | [a0, a1, a2, a3, a4, a5], _ => rfl) (fun _ h => aK3 h) W base args ds gs before hval hW hwt
theorem speakMessages_named : Tryz.pinned.checked.prog.funcNamed Rows.speakMessagesRow.func = some 5 := by kernel_rfl
theorem speakMessages_closed : joinedFacts Tryz.pinned.checked.prog 5 Tryz.f5 Rows.speakMessagesSpec Rows.speakMessagesRow = true := by kernel_rfl
theorem speakMessages_inst : Tryz.f5.isInstance Tryz.pinned.checked.prog Rows.speakMessagesRow.origin Rows.speakMessagesRow.targs := of_decide_eq_true (by kernel_rfl)
theorem speakMessages_wrap : Tryz.f5.isWrapper Tryz.pinned.checked.prog Rows.speakMessagesRow.wrapper Rows.speakMessagesRow.mainSum := by
 unfold Func.isWrapper; first | (rw [if_pos (by decide +kernel)]; kernel_rfl) | (rw [if_neg (by decide +kernel)]; exact ⟨rfl, rfl⟩)
theorem speakMessages_row : Rows.SpeakMessagesSaid :=
 OpenClaim.holds_of_wide 5 Tryz.f5 rfl rfl rfl rfl rfl rfl rfl ⟨rfl, rfl, rfl, rfl, rfl⟩ rfl rfl rfl rfl rfl speakMessages_named Tryz.func5 speakMessages_closed speakMessages_inst speakMessages_wrap
  (fun os started H enc _ => speakMessages_lifted os started H enc)
theorem speakMessages_holds : Rows.SpeakMessagesCardSaid :=
 Claim7.holds_tied_plain_at .later [] [.handle, .sentinel] true Rows.speakMessagesCard.stood.harness true
  speakMessages_row (fun _ h => by cases h) (by kernel_rfl) (fun _ h => by cases h) speakMessages_row_tie rfl ⟨rfl, rfl⟩ (by kernel_rfl) rfl
  (fun f fn hf hfn => by
   obtain rfl : f = 5 := Option.some.inj ((show Tryz.prog.funcNamed Rows.speakMessagesRow.func = some 5 by kernel_rfl).symm.trans hf) |>.symm
   obtain rfl : fn = Tryz.f5 := (Option.some.inj (Tryz.func5.symm.trans hfn)).symm
   refine ⟨by kernel_rfl, fun j t ht => ?_⟩
   have hall : (Tryz.f5.params.toList.all fun t => !Tryz.prog.wantsStandIn t) = true := by kernel_rfl
   have hm : t ∈ Tryz.f5.params.toList := Array.mem_toList_iff.2 (Array.mem_of_getElem? ht)
   exact (show Tryz.prog.wantsStandIn t = false by simpa using List.all_eq_true.1 hall t hm))
  (by kernel_rfl)
#print axioms speakMessages_holds
end Go.Proofs.YtpcnjabfiahhhaaGreatDoor
