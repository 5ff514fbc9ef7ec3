/- A part of the proof of RowSpeakOffers, RowSpeakMessages: lemmas alone, without conditions. -/
import Derived.Test.YtpcnjabfiahhhaaGreatDoorK26
set_option linter.all false
namespace Go.Abs
open Go.Proofs.YtpcnjabfiahhhaaGreatDoor
attribute [local irreducible] enL R RR fP fB pX fK fQ pU apply fT gQ bW bZ eJ bR iL bG bD eC cR kD dO V.rb V.rbL
def spare (f : Frame) : Frame :=
 if f.kind = 1 then fr1 f.part f.node f.wait
 else if f.kind = 2 then fr2 f.part f.node f.cycle f.mask f.ages
 else if f.kind = 3 then qQ f.part f.node f.link f.flag f.cycle f.offset
 else if f.kind = 4 then oZ f.part f.node f.link f.ages
 else if f.kind = 5 then C7 f.part f.node f.link f.frm f.to f.seq f.body
 else fr0
set_option maxHeartbeats 4000000 in
theorem jY {s : Option Nat} {H : aC} {f : Frame} : Call tab s q0 [f.v] H = some (.tup [(spare f).v, .bool (decide (1 ≤ f.kind ∧ f.kind ≤ 5))], H) := by
 unfold Frame.v spare
 by_cases h1 : f.kind = 1
 ·rw [if_pos h1, decide_eq_true (by omega)]
  ((first | refine aJ ?_ | skip); refine bX (cf := dA) rfl rfl rfl rfl ?_; unfold dA; dsimp only [aB, Nat.reduceAdd, Nat.zero_add])
  repeat' (first | refine aS ?_ | refine yc ?_ | (show zn; refine aA ?_) | (show gA; first | refine aH (fun _ => ?_) fun _ => ?_ | refine gc_E (fun _ => ?_) fun _ => ?_ | refine gc_N (fun _ => ?_) fun _ => ?_ | refine aT ?_ | refine gc_B (fun _ => ?_) fun _ => ?_) | fail)
  simp only [fr1, aO, List.length_nil, h1]
 rw [if_neg h1]
 by_cases h2 : f.kind = 2
 ·rw [if_pos h2, decide_eq_true (by omega)]
  ((first | refine aJ ?_ | skip); refine bX (cf := dA) rfl rfl rfl rfl ?_; unfold dA; dsimp only [aB, Nat.reduceAdd, Nat.zero_add])
  repeat' (first | refine aS ?_ | refine yc ?_ | (show zn; refine aA ?_) | (show gA; first | refine aH (fun _ => ?_) fun _ => ?_ | refine gc_E (fun _ => ?_) fun _ => ?_ | refine gc_N (fun _ => ?_) fun _ => ?_ | refine aT ?_ | refine gc_B (fun _ => ?_) fun _ => ?_) | fail)
  simp only [fr2, aO, List.length_nil, h2]
 rw [if_neg h2]
 by_cases h3 : f.kind = 3
 ·rw [if_pos h3, decide_eq_true (by omega)]
  ((first | refine aJ ?_ | skip); refine bX (cf := dA) rfl rfl rfl rfl ?_; unfold dA; dsimp only [aB, Nat.reduceAdd, Nat.zero_add])
  repeat' (first | refine aS ?_ | refine yc ?_ | (show zn; refine aA ?_) | (show gA; first | refine aH (fun _ => ?_) fun _ => ?_ | refine gc_E (fun _ => ?_) fun _ => ?_ | refine gc_N (fun _ => ?_) fun _ => ?_ | refine aT ?_ | refine gc_B (fun _ => ?_) fun _ => ?_) | fail)
  simp only [qQ, aO, List.length_nil, h3]
 rw [if_neg h3]
 by_cases h4 : f.kind = 4
 ·rw [if_pos h4, decide_eq_true (by omega)]
  ((first | refine aJ ?_ | skip); refine bX (cf := dA) rfl rfl rfl rfl ?_; unfold dA; dsimp only [aB, Nat.reduceAdd, Nat.zero_add])
  repeat' (first | refine aS ?_ | refine yc ?_ | (show zn; refine aA ?_) | (show gA; first | refine aH (fun _ => ?_) fun _ => ?_ | refine gc_E (fun _ => ?_) fun _ => ?_ | refine gc_N (fun _ => ?_) fun _ => ?_ | refine aT ?_ | refine gc_B (fun _ => ?_) fun _ => ?_) | fail)
  simp only [oZ, aO, List.length_nil, h4]
 rw [if_neg h4]
 by_cases h5 : f.kind = 5
 ·rw [if_pos h5, decide_eq_true (by omega)]
  ((first | refine aJ ?_ | skip); refine bX (cf := dA) rfl rfl rfl rfl ?_; unfold dA; dsimp only [aB, Nat.reduceAdd, Nat.zero_add])
  repeat' (first | refine aS ?_ | refine yc ?_ | (show zn; refine aA ?_) | (show gA; first | refine aH (fun _ => ?_) fun _ => ?_ | refine gc_E (fun _ => ?_) fun _ => ?_ | refine gc_N (fun _ => ?_) fun _ => ?_ | refine aT ?_ | refine gc_B (fun _ => ?_) fun _ => ?_) | fail)
  simp only [C7, aO, List.length_nil, h5]
 rw [if_neg h5, decide_eq_false (by omega)]
 ((first | refine aJ ?_ | skip); refine bX (cf := dA) rfl rfl rfl rfl ?_; unfold dA; dsimp only [aB, Nat.reduceAdd, Nat.zero_add])
 repeat' (first | refine aS ?_ | refine yc ?_ | (show zn; refine aA ?_) | (show gA; first | refine aH (fun _ => ?_) fun _ => ?_ | refine gc_E (fun _ => ?_) fun _ => ?_ | refine gc_N (fun _ => ?_) fun _ => ?_ | refine aT ?_ | refine gc_B (fun _ => ?_) fun _ => ?_) | fail)
 simp only [fr0, aO, List.length_nil]
def aC9 (f : Frame) : Frame :=
 if f.kind = 1 then fr1 f.part f.node f.wait
 else if f.kind = 2 then fr2 f.part f.node f.cycle f.mask f.ages
 else if f.kind = 3 then qQ f.part f.node f.link f.flag f.cycle f.offset
 else if f.kind = 4 then oZ f.part f.node f.link f.ages
 else if f.kind = 5 then C7 f.part f.node f.link f.frm f.to f.seq f.body
 else ⟨f.kind, f.part, f.node, 0, 0, 0, false, 0, 0, [], 0, 0, 0, []⟩
set_option maxHeartbeats 4000000 in
theorem M3 {s : Option Nat} {H : aC} {f : Frame} : Call tab s vT [f.v] H = some ((aC9 f).v, H) := by
 unfold Frame.v aC9
 by_cases h1 : f.kind = 1
 ·rw [if_pos h1]
  ((first | refine aJ ?_ | skip); refine bX (cf := cZ) rfl rfl rfl rfl ?_; unfold cZ; dsimp only [aB, Nat.reduceAdd, Nat.zero_add])
  repeat' (first | refine aS ?_ | refine yc ?_ | (show zn; refine aA ?_) | (show gA; first | refine aH (fun _ => ?_) fun _ => ?_ | refine gc_E (fun _ => ?_) fun _ => ?_ | refine gc_N (fun _ => ?_) fun _ => ?_ | refine aT ?_ | refine gc_B (fun _ => ?_) fun _ => ?_) | fail)
  simp only [fr1, aO, List.length_nil, h1]
 rw [if_neg h1]
 by_cases h2 : f.kind = 2
 ·rw [if_pos h2]
  ((first | refine aJ ?_ | skip); refine bX (cf := cZ) rfl rfl rfl rfl ?_; unfold cZ; dsimp only [aB, Nat.reduceAdd, Nat.zero_add])
  repeat' (first | refine aS ?_ | refine yc ?_ | (show zn; refine aA ?_) | (show gA; first | refine aH (fun _ => ?_) fun _ => ?_ | refine gc_E (fun _ => ?_) fun _ => ?_ | refine gc_N (fun _ => ?_) fun _ => ?_ | refine aT ?_ | refine gc_B (fun _ => ?_) fun _ => ?_) | fail)
  simp only [fr2, aO, List.length_nil, h2]
 rw [if_neg h2]
 by_cases h3 : f.kind = 3
 ·rw [if_pos h3]
  ((first | refine aJ ?_ | skip); refine bX (cf := cZ) rfl rfl rfl rfl ?_; unfold cZ; dsimp only [aB, Nat.reduceAdd, Nat.zero_add])
  repeat' (first | refine aS ?_ | refine yc ?_ | (show zn; refine aA ?_) | (show gA; first | refine aH (fun _ => ?_) fun _ => ?_ | refine gc_E (fun _ => ?_) fun _ => ?_ | refine gc_N (fun _ => ?_) fun _ => ?_ | refine aT ?_ | refine gc_B (fun _ => ?_) fun _ => ?_) | fail)
  simp only [qQ, aO, List.length_nil, h3]
 rw [if_neg h3]
 by_cases h4 : f.kind = 4
 ·rw [if_pos h4]
  ((first | refine aJ ?_ | skip); refine bX (cf := cZ) rfl rfl rfl rfl ?_; unfold cZ; dsimp only [aB, Nat.reduceAdd, Nat.zero_add])
  repeat' (first | refine aS ?_ | refine yc ?_ | (show zn; refine aA ?_) | (show gA; first | refine aH (fun _ => ?_) fun _ => ?_ | refine gc_E (fun _ => ?_) fun _ => ?_ | refine gc_N (fun _ => ?_) fun _ => ?_ | refine aT ?_ | refine gc_B (fun _ => ?_) fun _ => ?_) | fail)
  simp only [oZ, aO, List.length_nil, h4]
 rw [if_neg h4]
 by_cases h5 : f.kind = 5
 ·rw [if_pos h5]
  ((first | refine aJ ?_ | skip); refine bX (cf := cZ) rfl rfl rfl rfl ?_; unfold cZ; dsimp only [aB, Nat.reduceAdd, Nat.zero_add])
  repeat' (first | refine aS ?_ | refine yc ?_ | (show zn; refine aA ?_) | (show gA; first | refine aH (fun _ => ?_) fun _ => ?_ | refine gc_E (fun _ => ?_) fun _ => ?_ | refine gc_N (fun _ => ?_) fun _ => ?_ | refine aT ?_ | refine gc_B (fun _ => ?_) fun _ => ?_) | fail)
  simp only [C7, aO, List.length_nil, h5]
 rw [if_neg h5]
 ((first | refine aJ ?_ | skip); refine bX (cf := cZ) rfl rfl rfl rfl ?_; unfold cZ; dsimp only [aB, Nat.reduceAdd, Nat.zero_add])
 repeat' (first | refine aS ?_ | refine yc ?_ | (show zn; refine aA ?_) | (show gA; first | refine aH (fun _ => ?_) fun _ => ?_ | refine gc_E (fun _ => ?_) fun _ => ?_ | refine gc_N (fun _ => ?_) fun _ => ?_ | refine aT ?_ | refine gc_B (fun _ => ?_) fun _ => ?_) | fail)
 simp only [aO, List.length_nil]
theorem gH {s : Option Nat} {H : aC} {a b : Int} : Call tab s iF [.int .i64 a, .int .i64 b] H = some (.bool (decide (0 ≤ a ∧ a < b)), H) := by
 ((first | refine aJ ?_ | skip); refine bX (cf := pV) rfl rfl rfl rfl ?_; unfold pV; dsimp only [aB, Nat.reduceAdd, Nat.zero_add])
 repeat' (first | refine aS ?_ | refine yc ?_ | (show zn; refine aA ?_) | (show gA; first | refine aH (fun _ => ?_) fun _ => ?_ | refine gc_E (fun _ => ?_) fun _ => ?_ | refine gc_N (fun _ => ?_) fun _ => ?_ | refine aT ?_ | refine gc_B (fun _ => ?_) fun _ => ?_) | fail)
 all_goals first | (with_reducible rfl) | (simp only [Option.some.injEq, Prod.mk.injEq, V.bool.injEq, V.tup.injEq, V.int.injEq, List.cons.injEq, and_true, true_and]; first | done | (rw [Bool.eq_iff_iff]; simp only [decide_eq_true_eq, Bool.false_eq_true, Bool.true_eq_false, false_iff, iff_false, true_iff, iff_true, Bool.not_eq_true, decide_eq_false_iff_not, Bool.and_eq_true, Bool.or_eq_true]; omega) | omega)
theorem eI {s : Option Nat} {H : aC} {a b c : Int} : Call tab s kW [.int .i64 a, .int .i64 b, .int .i64 c] H = some (.bool (decide (b ≤ a ∧ a ≤ c)), H) := by
 ((first | refine aJ ?_ | skip); refine bX (cf := oB) rfl rfl rfl rfl ?_; unfold oB; dsimp only [aB, Nat.reduceAdd, Nat.zero_add])
 repeat' (first | refine aS ?_ | refine yc ?_ | (show zn; refine aA ?_) | (show gA; first | refine aH (fun _ => ?_) fun _ => ?_ | refine gc_E (fun _ => ?_) fun _ => ?_ | refine gc_N (fun _ => ?_) fun _ => ?_ | refine aT ?_ | refine gc_B (fun _ => ?_) fun _ => ?_) | fail)
 all_goals first | (with_reducible rfl) | (simp only [Option.some.injEq, Prod.mk.injEq, V.bool.injEq, V.tup.injEq, V.int.injEq, List.cons.injEq, and_true, true_and]; first | done | (rw [Bool.eq_iff_iff]; simp only [decide_eq_true_eq, Bool.false_eq_true, Bool.true_eq_false, false_iff, iff_false, true_iff, iff_true, Bool.not_eq_true, decide_eq_false_iff_not, Bool.and_eq_true, Bool.or_eq_true]; omega) | omega)
theorem dM {s : Option Nat} {H : aC} {a b c : Int} : Call tab s uJ [.int .i64 a, .int .i64 b, .int .i64 c] H = some (.bool (decide (b ≤ a ∧ a ≤ c)), H) := by
 ((first | refine aJ ?_ | skip); refine bX (cf := pT) rfl rfl rfl rfl ?_; unfold pT; dsimp only [aB, Nat.reduceAdd, Nat.zero_add])
 repeat' (first | refine aS ?_ | refine yc ?_ | (show zn; refine aA ?_) | (show gA; first | refine aH (fun _ => ?_) fun _ => ?_ | refine gc_E (fun _ => ?_) fun _ => ?_ | refine gc_N (fun _ => ?_) fun _ => ?_ | refine aT ?_ | refine gc_B (fun _ => ?_) fun _ => ?_) | fail)
 all_goals first | (with_reducible rfl) | (simp only [Option.some.injEq, Prod.mk.injEq, V.bool.injEq, V.tup.injEq, V.int.injEq, List.cons.injEq, and_true, true_and]; first | done | (rw [Bool.eq_iff_iff]; simp only [decide_eq_true_eq, Bool.false_eq_true, Bool.true_eq_false, false_iff, iff_false, true_iff, iff_true, Bool.not_eq_true, decide_eq_false_iff_not, Bool.and_eq_true, Bool.or_eq_true]; omega) | omega)
end Go.Abs
