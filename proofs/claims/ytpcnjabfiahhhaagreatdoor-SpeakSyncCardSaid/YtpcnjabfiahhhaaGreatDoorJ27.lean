/- A part of the proof of RowSpeakSync: lemmas alone, without conditions. -/
import Derived.Test.YtpcnjabfiahhhaaGreatDoorJ26
set_option linter.all false
namespace Go.Abs
open Go.Proofs.YtpcnjabfiahhhaaGreatDoor
attribute [local irreducible] enL R RR gT fU rC gG gU qS apply fW gZ bQ cC fB bN iN bK bG eS cV lA dU V.rb V.rbL
def spare (f : Frame) : Frame :=
 if f.kind = 1 then F8 f.part f.node f.wait
 else if f.kind = 2 then F9 f.part f.node f.cycle f.mask f.ages
 else if f.kind = 3 then fr3 f.part f.node f.link f.flag f.cycle f.offset
 else if f.kind = 4 then fr4 f.part f.node f.link f.ages
 else if f.kind = 5 then fr5 f.part f.node f.link f.frm f.to f.seq f.body
 else fr0
set_option maxHeartbeats 4000000 in
theorem jE {s : Option Nat} {H : aB} {f : Frame} : Call tab s i7 [f.v] H = some (.tup [(spare f).v, .bool (decide (1 ≤ f.kind ∧ f.kind ≤ 5))], H) := by
 unfold Frame.v spare
 by_cases h1 : f.kind = 1
 ·rw [if_pos h1, decide_eq_true (by omega)]
  ((first | refine aJ ?_ | skip); refine cB (cf := cR) rfl rfl rfl rfl ?_; unfold cR; dsimp only [aC, Nat.reduceAdd, Nat.zero_add])
  repeat' (first | refine aS ?_ | refine yc ?_ | (show zn; refine aA ?_) | (show gA; first | refine aH (fun _ => ?_) fun _ => ?_ | refine gc_E (fun _ => ?_) fun _ => ?_ | refine gc_N (fun _ => ?_) fun _ => ?_ | refine aT ?_ | refine gc_B (fun _ => ?_) fun _ => ?_) | fail)
  simp only [F8, bJ, List.length_nil, h1]
 rw [if_neg h1]
 by_cases h2 : f.kind = 2
 ·rw [if_pos h2, decide_eq_true (by omega)]
  ((first | refine aJ ?_ | skip); refine cB (cf := cR) rfl rfl rfl rfl ?_; unfold cR; dsimp only [aC, Nat.reduceAdd, Nat.zero_add])
  repeat' (first | refine aS ?_ | refine yc ?_ | (show zn; refine aA ?_) | (show gA; first | refine aH (fun _ => ?_) fun _ => ?_ | refine gc_E (fun _ => ?_) fun _ => ?_ | refine gc_N (fun _ => ?_) fun _ => ?_ | refine aT ?_ | refine gc_B (fun _ => ?_) fun _ => ?_) | fail)
  simp only [F9, bJ, List.length_nil, h2]
 rw [if_neg h2]
 by_cases h3 : f.kind = 3
 ·rw [if_pos h3, decide_eq_true (by omega)]
  ((first | refine aJ ?_ | skip); refine cB (cf := cR) rfl rfl rfl rfl ?_; unfold cR; dsimp only [aC, Nat.reduceAdd, Nat.zero_add])
  repeat' (first | refine aS ?_ | refine yc ?_ | (show zn; refine aA ?_) | (show gA; first | refine aH (fun _ => ?_) fun _ => ?_ | refine gc_E (fun _ => ?_) fun _ => ?_ | refine gc_N (fun _ => ?_) fun _ => ?_ | refine aT ?_ | refine gc_B (fun _ => ?_) fun _ => ?_) | fail)
  simp only [fr3, bJ, List.length_nil, h3]
 rw [if_neg h3]
 by_cases h4 : f.kind = 4
 ·rw [if_pos h4, decide_eq_true (by omega)]
  ((first | refine aJ ?_ | skip); refine cB (cf := cR) rfl rfl rfl rfl ?_; unfold cR; dsimp only [aC, Nat.reduceAdd, Nat.zero_add])
  repeat' (first | refine aS ?_ | refine yc ?_ | (show zn; refine aA ?_) | (show gA; first | refine aH (fun _ => ?_) fun _ => ?_ | refine gc_E (fun _ => ?_) fun _ => ?_ | refine gc_N (fun _ => ?_) fun _ => ?_ | refine aT ?_ | refine gc_B (fun _ => ?_) fun _ => ?_) | fail)
  simp only [fr4, bJ, List.length_nil, h4]
 rw [if_neg h4]
 by_cases h5 : f.kind = 5
 ·rw [if_pos h5, decide_eq_true (by omega)]
  ((first | refine aJ ?_ | skip); refine cB (cf := cR) rfl rfl rfl rfl ?_; unfold cR; dsimp only [aC, Nat.reduceAdd, Nat.zero_add])
  repeat' (first | refine aS ?_ | refine yc ?_ | (show zn; refine aA ?_) | (show gA; first | refine aH (fun _ => ?_) fun _ => ?_ | refine gc_E (fun _ => ?_) fun _ => ?_ | refine gc_N (fun _ => ?_) fun _ => ?_ | refine aT ?_ | refine gc_B (fun _ => ?_) fun _ => ?_) | fail)
  simp only [fr5, bJ, List.length_nil, h5]
 rw [if_neg h5, decide_eq_false (by omega)]
 ((first | refine aJ ?_ | skip); refine cB (cf := cR) rfl rfl rfl rfl ?_; unfold cR; dsimp only [aC, Nat.reduceAdd, Nat.zero_add])
 repeat' (first | refine aS ?_ | refine yc ?_ | (show zn; refine aA ?_) | (show gA; first | refine aH (fun _ => ?_) fun _ => ?_ | refine gc_E (fun _ => ?_) fun _ => ?_ | refine gc_N (fun _ => ?_) fun _ => ?_ | refine aT ?_ | refine gc_B (fun _ => ?_) fun _ => ?_) | fail)
 simp only [fr0, bJ, List.length_nil]
def aBl (f : Frame) : Frame :=
 if f.kind = 1 then F8 f.part f.node f.wait
 else if f.kind = 2 then F9 f.part f.node f.cycle f.mask f.ages
 else if f.kind = 3 then fr3 f.part f.node f.link f.flag f.cycle f.offset
 else if f.kind = 4 then fr4 f.part f.node f.link f.ages
 else if f.kind = 5 then fr5 f.part f.node f.link f.frm f.to f.seq f.body
 else ⟨f.kind, f.part, f.node, 0, 0, 0, false, 0, 0, [], 0, 0, 0, []⟩
set_option maxHeartbeats 4000000 in
theorem K8 {s : Option Nat} {H : aB} {f : Frame} : Call tab s uT [f.v] H = some ((aBl f).v, H) := by
 unfold Frame.v aBl
 by_cases h1 : f.kind = 1
 ·rw [if_pos h1]
  ((first | refine aJ ?_ | skip); refine cB (cf := cQ) rfl rfl rfl rfl ?_; unfold cQ; dsimp only [aC, Nat.reduceAdd, Nat.zero_add])
  repeat' (first | refine aS ?_ | refine yc ?_ | (show zn; refine aA ?_) | (show gA; first | refine aH (fun _ => ?_) fun _ => ?_ | refine gc_E (fun _ => ?_) fun _ => ?_ | refine gc_N (fun _ => ?_) fun _ => ?_ | refine aT ?_ | refine gc_B (fun _ => ?_) fun _ => ?_) | fail)
  simp only [F8, bJ, List.length_nil, h1]
 rw [if_neg h1]
 by_cases h2 : f.kind = 2
 ·rw [if_pos h2]
  ((first | refine aJ ?_ | skip); refine cB (cf := cQ) rfl rfl rfl rfl ?_; unfold cQ; dsimp only [aC, Nat.reduceAdd, Nat.zero_add])
  repeat' (first | refine aS ?_ | refine yc ?_ | (show zn; refine aA ?_) | (show gA; first | refine aH (fun _ => ?_) fun _ => ?_ | refine gc_E (fun _ => ?_) fun _ => ?_ | refine gc_N (fun _ => ?_) fun _ => ?_ | refine aT ?_ | refine gc_B (fun _ => ?_) fun _ => ?_) | fail)
  simp only [F9, bJ, List.length_nil, h2]
 rw [if_neg h2]
 by_cases h3 : f.kind = 3
 ·rw [if_pos h3]
  ((first | refine aJ ?_ | skip); refine cB (cf := cQ) rfl rfl rfl rfl ?_; unfold cQ; dsimp only [aC, Nat.reduceAdd, Nat.zero_add])
  repeat' (first | refine aS ?_ | refine yc ?_ | (show zn; refine aA ?_) | (show gA; first | refine aH (fun _ => ?_) fun _ => ?_ | refine gc_E (fun _ => ?_) fun _ => ?_ | refine gc_N (fun _ => ?_) fun _ => ?_ | refine aT ?_ | refine gc_B (fun _ => ?_) fun _ => ?_) | fail)
  simp only [fr3, bJ, List.length_nil, h3]
 rw [if_neg h3]
 by_cases h4 : f.kind = 4
 ·rw [if_pos h4]
  ((first | refine aJ ?_ | skip); refine cB (cf := cQ) rfl rfl rfl rfl ?_; unfold cQ; dsimp only [aC, Nat.reduceAdd, Nat.zero_add])
  repeat' (first | refine aS ?_ | refine yc ?_ | (show zn; refine aA ?_) | (show gA; first | refine aH (fun _ => ?_) fun _ => ?_ | refine gc_E (fun _ => ?_) fun _ => ?_ | refine gc_N (fun _ => ?_) fun _ => ?_ | refine aT ?_ | refine gc_B (fun _ => ?_) fun _ => ?_) | fail)
  simp only [fr4, bJ, List.length_nil, h4]
 rw [if_neg h4]
 by_cases h5 : f.kind = 5
 ·rw [if_pos h5]
  ((first | refine aJ ?_ | skip); refine cB (cf := cQ) rfl rfl rfl rfl ?_; unfold cQ; dsimp only [aC, Nat.reduceAdd, Nat.zero_add])
  repeat' (first | refine aS ?_ | refine yc ?_ | (show zn; refine aA ?_) | (show gA; first | refine aH (fun _ => ?_) fun _ => ?_ | refine gc_E (fun _ => ?_) fun _ => ?_ | refine gc_N (fun _ => ?_) fun _ => ?_ | refine aT ?_ | refine gc_B (fun _ => ?_) fun _ => ?_) | fail)
  simp only [fr5, bJ, List.length_nil, h5]
 rw [if_neg h5]
 ((first | refine aJ ?_ | skip); refine cB (cf := cQ) rfl rfl rfl rfl ?_; unfold cQ; dsimp only [aC, Nat.reduceAdd, Nat.zero_add])
 repeat' (first | refine aS ?_ | refine yc ?_ | (show zn; refine aA ?_) | (show gA; first | refine aH (fun _ => ?_) fun _ => ?_ | refine gc_E (fun _ => ?_) fun _ => ?_ | refine gc_N (fun _ => ?_) fun _ => ?_ | refine aT ?_ | refine gc_B (fun _ => ?_) fun _ => ?_) | fail)
 simp only [bJ, List.length_nil]
theorem fQ {s : Option Nat} {H : aB} {a b : Int} : Call tab s gS [.int .i64 a, .int .i64 b] H = some (.bool (decide (0 ≤ a ∧ a < b)), H) := by
 ((first | refine aJ ?_ | skip); refine cB (cf := oK) rfl rfl rfl rfl ?_; unfold oK; dsimp only [aC, Nat.reduceAdd, Nat.zero_add])
 repeat' (first | refine aS ?_ | refine yc ?_ | (show zn; refine aA ?_) | (show gA; first | refine aH (fun _ => ?_) fun _ => ?_ | refine gc_E (fun _ => ?_) fun _ => ?_ | refine gc_N (fun _ => ?_) fun _ => ?_ | refine aT ?_ | refine gc_B (fun _ => ?_) fun _ => ?_) | fail)
 all_goals first | (with_reducible rfl) | (simp only [Option.some.injEq, Prod.mk.injEq, V.bool.injEq, V.tup.injEq, V.int.injEq, List.cons.injEq, and_true, true_and]; first | done | (rw [Bool.eq_iff_iff]; simp only [decide_eq_true_eq, Bool.false_eq_true, Bool.true_eq_false, false_iff, iff_false, true_iff, iff_true, Bool.not_eq_true, decide_eq_false_iff_not, Bool.and_eq_true, Bool.or_eq_true]; omega) | omega)
theorem dV {s : Option Nat} {H : aB} {a b c : Int} : Call tab s kE [.int .i64 a, .int .i64 b, .int .i64 c] H = some (.bool (decide (b ≤ a ∧ a ≤ c)), H) := by
 ((first | refine aJ ?_ | skip); refine cB (cf := mZ) rfl rfl rfl rfl ?_; unfold mZ; dsimp only [aC, Nat.reduceAdd, Nat.zero_add])
 repeat' (first | refine aS ?_ | refine yc ?_ | (show zn; refine aA ?_) | (show gA; first | refine aH (fun _ => ?_) fun _ => ?_ | refine gc_E (fun _ => ?_) fun _ => ?_ | refine gc_N (fun _ => ?_) fun _ => ?_ | refine aT ?_ | refine gc_B (fun _ => ?_) fun _ => ?_) | fail)
 all_goals first | (with_reducible rfl) | (simp only [Option.some.injEq, Prod.mk.injEq, V.bool.injEq, V.tup.injEq, V.int.injEq, List.cons.injEq, and_true, true_and]; first | done | (rw [Bool.eq_iff_iff]; simp only [decide_eq_true_eq, Bool.false_eq_true, Bool.true_eq_false, false_iff, iff_false, true_iff, iff_true, Bool.not_eq_true, decide_eq_false_iff_not, Bool.and_eq_true, Bool.or_eq_true]; omega) | omega)
theorem dD {s : Option Nat} {H : aB} {a b c : Int} : Call tab s tG [.int .i64 a, .int .i64 b, .int .i64 c] H = some (.bool (decide (b ≤ a ∧ a ≤ c)), H) := by
 ((first | refine aJ ?_ | skip); refine cB (cf := oT) rfl rfl rfl rfl ?_; unfold oT; dsimp only [aC, Nat.reduceAdd, Nat.zero_add])
 repeat' (first | refine aS ?_ | refine yc ?_ | (show zn; refine aA ?_) | (show gA; first | refine aH (fun _ => ?_) fun _ => ?_ | refine gc_E (fun _ => ?_) fun _ => ?_ | refine gc_N (fun _ => ?_) fun _ => ?_ | refine aT ?_ | refine gc_B (fun _ => ?_) fun _ => ?_) | fail)
 all_goals first | (with_reducible rfl) | (simp only [Option.some.injEq, Prod.mk.injEq, V.bool.injEq, V.tup.injEq, V.int.injEq, List.cons.injEq, and_true, true_and]; first | done | (rw [Bool.eq_iff_iff]; simp only [decide_eq_true_eq, Bool.false_eq_true, Bool.true_eq_false, false_iff, iff_false, true_iff, iff_true, Bool.not_eq_true, decide_eq_false_iff_not, Bool.and_eq_true, Bool.or_eq_true]; omega) | omega)
end Go.Abs
