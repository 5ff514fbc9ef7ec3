/- A part of the proof of RowAirFits, RowAirHeard, RowAirOrder, RowAirLost: lemmas alone, without conditions. -/
import Derived.Test.YtpcnjabfiahhhaaGreatDoorK25
set_option linter.all false
namespace Go.Abs
open Go.Proofs.YtpcnjabfiahhhaaGreatDoor
attribute [local irreducible] enL R RR dF cZ lV dE dG mP apply dB eI aX aZ cO aW fB aP aN cK bN gL cA V.rb V.rbL
def spare (f : Frame) : Frame :=
 if f.kind = 1 then fr1 f.part f.node f.wait
 else if f.kind = 2 then fr2 f.part f.node f.cycle f.mask f.ages
 else if f.kind = 3 then fr3 f.part f.node f.link f.flag f.cycle f.offset
 else if f.kind = 4 then fr4 f.part f.node f.link f.ages
 else if f.kind = 5 then fr5 f.part f.node f.link f.frm f.to f.seq f.body
 else fr0
set_option maxHeartbeats 4000000 in
theorem aUs {s : Option Nat} {H : aB} {f : Frame} : Call tab s E2 [f.v] H = some (.tup [(spare f).v, .bool (decide (1 ≤ f.kind ∧ f.kind ≤ 5))], H) := by
 unfold Frame.v spare
 by_cases h1 : f.kind = 1
 ·rw [if_pos h1, decide_eq_true (by omega)]
  ((first | refine aC ?_ | skip); refine bE (cf := cN) rfl rfl rfl rfl ?_; unfold cN; dsimp only [aA, Nat.reduceAdd, Nat.zero_add])
  repeat' (first | refine aF ?_ | refine yc ?_ | refine sG (fun _ => ?_) fun _ => ?_ | refine aG ?_ | refine sH (fun _ => ?_) fun _ => ?_ | fail)
  simp only [fr1, aL, List.length_nil, h1]
 rw [if_neg h1]
 by_cases h2 : f.kind = 2
 ·rw [if_pos h2, decide_eq_true (by omega)]
  ((first | refine aC ?_ | skip); refine bE (cf := cN) rfl rfl rfl rfl ?_; unfold cN; dsimp only [aA, Nat.reduceAdd, Nat.zero_add])
  repeat' (first | refine aF ?_ | refine yc ?_ | refine sG (fun _ => ?_) fun _ => ?_ | refine aG ?_ | refine sH (fun _ => ?_) fun _ => ?_ | fail)
  simp only [fr2, aL, List.length_nil, h2]
 rw [if_neg h2]
 by_cases h3 : f.kind = 3
 ·rw [if_pos h3, decide_eq_true (by omega)]
  ((first | refine aC ?_ | skip); refine bE (cf := cN) rfl rfl rfl rfl ?_; unfold cN; dsimp only [aA, Nat.reduceAdd, Nat.zero_add])
  repeat' (first | refine aF ?_ | refine yc ?_ | refine sG (fun _ => ?_) fun _ => ?_ | refine aG ?_ | refine sH (fun _ => ?_) fun _ => ?_ | fail)
  simp only [fr3, aL, List.length_nil, h3]
 rw [if_neg h3]
 by_cases h4 : f.kind = 4
 ·rw [if_pos h4, decide_eq_true (by omega)]
  ((first | refine aC ?_ | skip); refine bE (cf := cN) rfl rfl rfl rfl ?_; unfold cN; dsimp only [aA, Nat.reduceAdd, Nat.zero_add])
  repeat' (first | refine aF ?_ | refine yc ?_ | refine sG (fun _ => ?_) fun _ => ?_ | refine aG ?_ | refine sH (fun _ => ?_) fun _ => ?_ | fail)
  simp only [fr4, aL, List.length_nil, h4]
 rw [if_neg h4]
 by_cases h5 : f.kind = 5
 ·rw [if_pos h5, decide_eq_true (by omega)]
  ((first | refine aC ?_ | skip); refine bE (cf := cN) rfl rfl rfl rfl ?_; unfold cN; dsimp only [aA, Nat.reduceAdd, Nat.zero_add])
  repeat' (first | refine aF ?_ | refine yc ?_ | refine sG (fun _ => ?_) fun _ => ?_ | refine aG ?_ | refine sH (fun _ => ?_) fun _ => ?_ | fail)
  simp only [fr5, aL, List.length_nil, h5]
 rw [if_neg h5, decide_eq_false (by omega)]
 ((first | refine aC ?_ | skip); refine bE (cf := cN) rfl rfl rfl rfl ?_; unfold cN; dsimp only [aA, Nat.reduceAdd, Nat.zero_add])
 repeat' (first | refine aF ?_ | refine yc ?_ | refine sG (fun _ => ?_) fun _ => ?_ | refine aG ?_ | refine sH (fun _ => ?_) fun _ => ?_ | fail)
 simp only [fr0, aL, List.length_nil]
def vK (f : Frame) : Frame :=
 if f.kind = 1 then fr1 f.part f.node f.wait
 else if f.kind = 2 then fr2 f.part f.node f.cycle f.mask f.ages
 else if f.kind = 3 then fr3 f.part f.node f.link f.flag f.cycle f.offset
 else if f.kind = 4 then fr4 f.part f.node f.link f.ages
 else if f.kind = 5 then fr5 f.part f.node f.link f.frm f.to f.seq f.body
 else ⟨f.kind, f.part, f.node, 0, 0, 0, false, 0, 0, [], 0, 0, 0, []⟩
set_option maxHeartbeats 4000000 in
theorem aAd {s : Option Nat} {H : aB} {f : Frame} : Call tab s rP [f.v] H = some ((vK f).v, H) := by
 unfold Frame.v vK
 by_cases h1 : f.kind = 1
 ·rw [if_pos h1]
  ((first | refine aC ?_ | skip); refine bE (cf := cM) rfl rfl rfl rfl ?_; unfold cM; dsimp only [aA, Nat.reduceAdd, Nat.zero_add])
  repeat' (first | refine aF ?_ | refine yc ?_ | refine sG (fun _ => ?_) fun _ => ?_ | refine aG ?_ | refine sH (fun _ => ?_) fun _ => ?_ | fail)
  simp only [fr1, aL, List.length_nil, h1]
 rw [if_neg h1]
 by_cases h2 : f.kind = 2
 ·rw [if_pos h2]
  ((first | refine aC ?_ | skip); refine bE (cf := cM) rfl rfl rfl rfl ?_; unfold cM; dsimp only [aA, Nat.reduceAdd, Nat.zero_add])
  repeat' (first | refine aF ?_ | refine yc ?_ | refine sG (fun _ => ?_) fun _ => ?_ | refine aG ?_ | refine sH (fun _ => ?_) fun _ => ?_ | fail)
  simp only [fr2, aL, List.length_nil, h2]
 rw [if_neg h2]
 by_cases h3 : f.kind = 3
 ·rw [if_pos h3]
  ((first | refine aC ?_ | skip); refine bE (cf := cM) rfl rfl rfl rfl ?_; unfold cM; dsimp only [aA, Nat.reduceAdd, Nat.zero_add])
  repeat' (first | refine aF ?_ | refine yc ?_ | refine sG (fun _ => ?_) fun _ => ?_ | refine aG ?_ | refine sH (fun _ => ?_) fun _ => ?_ | fail)
  simp only [fr3, aL, List.length_nil, h3]
 rw [if_neg h3]
 by_cases h4 : f.kind = 4
 ·rw [if_pos h4]
  ((first | refine aC ?_ | skip); refine bE (cf := cM) rfl rfl rfl rfl ?_; unfold cM; dsimp only [aA, Nat.reduceAdd, Nat.zero_add])
  repeat' (first | refine aF ?_ | refine yc ?_ | refine sG (fun _ => ?_) fun _ => ?_ | refine aG ?_ | refine sH (fun _ => ?_) fun _ => ?_ | fail)
  simp only [fr4, aL, List.length_nil, h4]
 rw [if_neg h4]
 by_cases h5 : f.kind = 5
 ·rw [if_pos h5]
  ((first | refine aC ?_ | skip); refine bE (cf := cM) rfl rfl rfl rfl ?_; unfold cM; dsimp only [aA, Nat.reduceAdd, Nat.zero_add])
  repeat' (first | refine aF ?_ | refine yc ?_ | refine sG (fun _ => ?_) fun _ => ?_ | refine aG ?_ | refine sH (fun _ => ?_) fun _ => ?_ | fail)
  simp only [fr5, aL, List.length_nil, h5]
 rw [if_neg h5]
 ((first | refine aC ?_ | skip); refine bE (cf := cM) rfl rfl rfl rfl ?_; unfold cM; dsimp only [aA, Nat.reduceAdd, Nat.zero_add])
 repeat' (first | refine aF ?_ | refine yc ?_ | refine sG (fun _ => ?_) fun _ => ?_ | refine aG ?_ | refine sH (fun _ => ?_) fun _ => ?_ | fail)
 simp only [aL, List.length_nil]
theorem E9 {s : Option Nat} {H : aB} {a b c : Int} : Call tab s sU [.int .i64 a, .int .i64 b, .int .i64 c] H = some (.bool (decide (b ≤ a ∧ a ≤ c)), H) := by
 ((first | refine aC ?_ | skip); refine bE (cf := sY) rfl rfl rfl rfl ?_; unfold sY; dsimp only [aA, Nat.reduceAdd, Nat.zero_add])
 repeat' (first | refine aF ?_ | refine yc ?_ | refine sG (fun _ => ?_) fun _ => ?_ | refine aG ?_ | refine sH (fun _ => ?_) fun _ => ?_ | fail)
 all_goals first | (with_reducible rfl) | (simp only [Option.some.injEq, Prod.mk.injEq, V.bool.injEq, V.tup.injEq, V.int.injEq, List.cons.injEq, and_true, true_and]; first | done | (rw [Bool.eq_iff_iff]; simp only [decide_eq_true_eq, Bool.false_eq_true, Bool.true_eq_false, false_iff, iff_false, true_iff, iff_true, Bool.not_eq_true, decide_eq_false_iff_not, Bool.and_eq_true, Bool.or_eq_true]; omega) | omega)
theorem iB {s : Option Nat} {H : aB} {a b c : Int} : Call tab s vG [.int .i64 a, .int .i64 b, .int .i64 c] H = some (.bool (decide (b ≤ a ∧ a ≤ c)), H) := by
 ((first | refine aC ?_ | skip); refine bE (cf := uV) rfl rfl rfl rfl ?_; unfold uV; dsimp only [aA, Nat.reduceAdd, Nat.zero_add])
 repeat' (first | refine aF ?_ | refine yc ?_ | refine sG (fun _ => ?_) fun _ => ?_ | refine aG ?_ | refine sH (fun _ => ?_) fun _ => ?_ | fail)
 all_goals first | (with_reducible rfl) | (simp only [Option.some.injEq, Prod.mk.injEq, V.bool.injEq, V.tup.injEq, V.int.injEq, List.cons.injEq, and_true, true_and]; first | done | (rw [Bool.eq_iff_iff]; simp only [decide_eq_true_eq, Bool.false_eq_true, Bool.true_eq_false, false_iff, iff_false, true_iff, iff_true, Bool.not_eq_true, decide_eq_false_iff_not, Bool.and_eq_true, Bool.or_eq_true]; omega) | omega)
end Go.Abs
