/- A part of the proof of RowAirFits, RowAirHeard, RowAirOrder, RowAirLost: lemmas alone, without conditions. -/
import Derived.Test.YtpcnjabfiahhhaaGreatDoorK28
set_option linter.all false
namespace Go.Abs
open Go.Proofs.YtpcnjabfiahhhaaGreatDoor
attribute [local irreducible] enL R RR dF cZ lV dE dG mP apply dB eI aX aZ cO aW fB aP aN cK bN gL cA V.rb V.rbL
theorem bA6 {G : aB} {i : Nat} {c : List V} (h : i < G.length) : (G.set i c)[i]? = some c := by rw [List.getElem?_set_self h]
def aP2 (f : Frame) : V := if tD f then .tup [.sl (some 1) (qR (aNk f)).length (enL (qR (aNk f))), .int .i64 0] else .tup [.sl (some 1) 0 [], .int .i64 1]
theorem mQ (n : Int) : (be n 1).length = 1 := i4 n 1
theorem vP (n : Int) : (be n 2).length = 2 := i4 n 2
theorem wN (n : Int) : (be n 4).length = 4 := i4 n 4
theorem vQ (n : Int) : (be n 6).length = 6 := i4 n 6
theorem aBn {l : List Int} (h : nJ l) : (aG2 l).length ≤ 7 := by
 have := h.2.1
 show (be l.length 1 ++ vV l).length ≤ 7
 rw [List.length_append, mQ, aCg]; omega
theorem aEq {f : Frame} (h : tD f) : (aNk f).length ≤ 100 := by
 unfold aNk
 obtain ⟨_, _, _, _, h⟩ := h
 rcases h with h | h | h | h | h
 all_goals (
  have hk := congrArg Frame.kind h.1
  simp only [fr1, fr2, fr3, fr4, fr5] at hk
  simp only [hk, Int.reduceEq, if_true, if_false, List.length_append, mQ, vP, wN, vQ])
 ·omega
 ·have := aBn h.2.2.2.2.2; omega
 ·omega
 ·have := aBn h.2.2.2; omega
 ·omega
set_option maxHeartbeats 4000000 in
theorem aLl {s : Option Nat} {H : aB} {f : Frame} (hl : f.ages.length ≤ 140737488355328) (hb : f.body.length ≤ 140737488355328) : Call tab s vD [f.v] H = some (aP2 f, H) := by
 unfold aP2
 by_cases hm : tD f
 rotate_left
 ·have hm2 : decide (tD f) = false := decide_eq_false hm
  rw [if_neg hm]
  have hmay : ∀ s H, Call tab s xW [f.v] H = some (.bool (decide (tD f)), H) := fun s H => aOe hl hb
  unfold Frame.v at *
  ((first | refine aC ?_ | skip); refine bE (cf := bZ) rfl rfl rfl rfl ?_; unfold bZ; dsimp only [aA, Nat.reduceAdd, Nat.zero_add])
  repeat' (first | refine aF ?_ | refine yc ?_ (ha := by first | exact hmay _ _ | assumption) | refine sG (fun _ => ?_) fun _ => ?_ | refine aG ?_ | refine sH (fun _ => ?_) fun _ => ?_ | fail)
  rfl
 have hm2 : decide (tD f) = true := decide_eq_true hm
 have hlen := aEq hm
 rw [if_pos hm]
 have hmay : ∀ s H, Call tab s xW [f.v] H = some (.bool (decide (tD f)), H) := fun s H => aOe hl hb
 unfold aNk at *
 have hm9 := hm
 obtain ⟨p0, p1, n0, n1, hk⟩ := hm9
 have hff : ∀ b, aNj b = 0 ∨ aNj b = 1 := fun b => by cases b <;> decide
 have hfl := hff f.flag
 rcases hk with ⟨h, k⟩ | ⟨h, k⟩ | ⟨h, k⟩ | ⟨h, k⟩ | ⟨h, k⟩
 all_goals (
  have hk := congrArg Frame.kind h
  simp only [fr1, fr2, fr3, fr4, fr5] at hk
  simp only [hk, Int.reduceEq, if_true, if_false, List.append_assoc] at hlen ⊢
  have e0k := mQ f.kind; have e0 := mQ 1; have e01 := mQ 2; have e02 := mQ 3; have e03 := mQ 4; have e04 := mQ 5; have e1 := mQ f.part; have e2 := mQ f.node; have e3 := mQ f.link; have e4 := mQ f.frm; have e5 := mQ f.to; have e6 := wN f.seq; have e7 := mQ f.body.length; have e8 := vQ f.cycle; have e9 := vQ f.offset; have ea := vP f.mask; have eb := vP f.wait; have ec := mQ (aNj f.flag)
  unfold Frame.v at hmay ⊢)
 ·((first | refine aC ?_ | skip); refine bE (cf := bZ) rfl rfl rfl rfl ?_; unfold bZ; dsimp only [aA, Nat.reduceAdd, Nat.zero_add])
  repeat' (first | refine aF ?_ | refine yc ?_ (ha := by first | exact hmay _ _ | (show Call _ _ aV [.sl _ 0 _, _, _] _ = _; exact C1 (w := 1) (by decide) (by omega) (by omega)) | (show Call _ _ aV [_, _, .int _ 1] _ = _; exact pM (w := 1) (by decide) (by omega) (by omega) (by simp only [List.length_append, mQ, vP, wN, vQ]; omega)) | (show Call _ _ aV [_, _, .int _ 2] _ = _; exact pM (w := 2) (by decide) (by omega) (by omega) (by simp only [List.length_append, mQ, vP, wN, vQ]; omega)) | (show Call _ _ iD _ _ = _; exact yI (by simp only [List.length_append, mQ, vP, wN, vQ] at *; omega)) | assumption) | refine sG (fun _ => ?_) fun _ => ?_ | refine aG ?_ | refine sH (fun _ => ?_) fun _ => ?_ | fail)
  simp only [List.append_assoc, hk]
 ·((first | refine aC ?_ | skip); refine bE (cf := bZ) rfl rfl rfl rfl ?_; unfold bZ; dsimp only [aA, Nat.reduceAdd, Nat.zero_add])
  repeat' (first | refine aF ?_ | refine yc ?_ (ha := by first | exact hmay _ _ | (show Call _ _ aV [.sl _ 0 _, _, _] _ = _; exact C1 (w := 1) (by decide) (by omega) (by omega)) | (show Call _ _ aV [_, _, .int _ 1] _ = _; exact pM (w := 1) (by decide) (by omega) (by omega) (by simp only [List.length_append, mQ, vP, wN, vQ]; omega)) | (show Call _ _ aV [_, _, .int _ 6] _ = _; exact pM (w := 6) (by decide) (by omega) (by omega) (by simp only [List.length_append, mQ, vP, wN, vQ]; omega)) | (show Call _ _ aV [_, _, .int _ 2] _ = _; exact pM (w := 2) (by decide) (by omega) (by omega) (by simp only [List.length_append, mQ, vP, wN, vQ]; omega)) | (show Call _ _ lD _ _ = _; exact Y4 k.2.2.2.2 (by simp only [List.length_append, mQ, vP, wN, vQ]; omega)) | (show Call _ _ iD _ _ = _; exact yI (by simp only [List.length_append, mQ, vP, wN, vQ] at *; omega)) | assumption) | refine sG (fun _ => ?_) fun _ => ?_ | refine aG ?_ | refine sH (fun _ => ?_) fun _ => ?_ | fail)
  simp only [List.append_assoc, hk]
 ·((first | refine aC ?_ | skip); refine bE (cf := bZ) rfl rfl rfl rfl ?_; unfold bZ; dsimp only [aA, Nat.reduceAdd, Nat.zero_add])
  repeat' (first | refine aF ?_ | refine yc ?_ (ha := by first | exact hmay _ _ | (show Call _ _ aV [.sl _ 0 _, _, _] _ = _; exact C1 (w := 1) (by decide) (by omega) (by omega)) | (show Call _ _ aV [_, _, .int _ 1] _ = _; exact pM (w := 1) (by decide) (by omega) (by omega) (by simp only [List.length_append, mQ, vP, wN, vQ]; omega)) | (show Call _ _ aV [_, _, .int _ 6] _ = _; exact pM (w := 6) (by decide) (by omega) (by omega) (by simp only [List.length_append, mQ, vP, wN, vQ]; omega)) | exact aS4 | (show Call _ _ vE _ _ = _; exact aKh (by omega) (by omega)) | (show Call _ _ iD _ _ = _; exact yI (by simp only [List.length_append, mQ, vP, wN, vQ] at *; omega)) | assumption) | refine sG (fun _ => ?_) fun _ => ?_ | refine aG ?_ | refine sH (fun _ => ?_) fun _ => ?_ | fail)
  simp only [List.append_assoc, hk]
 ·((first | refine aC ?_ | skip); refine bE (cf := bZ) rfl rfl rfl rfl ?_; unfold bZ; dsimp only [aA, Nat.reduceAdd, Nat.zero_add])
  repeat' (first | refine aF ?_ | refine yc ?_ (ha := by first | exact hmay _ _ | (show Call _ _ aV [.sl _ 0 _, _, _] _ = _; exact C1 (w := 1) (by decide) (by omega) (by omega)) | (show Call _ _ aV [_, _, .int _ 1] _ = _; exact pM (w := 1) (by decide) (by omega) (by omega) (by simp only [List.length_append, mQ, vP, wN, vQ]; omega)) | (show Call _ _ lD _ _ = _; exact Y4 k.2.2 (by simp only [List.length_append, mQ, vP, wN, vQ]; omega)) | (show Call _ _ iD _ _ = _; exact yI (by simp only [List.length_append, mQ, vP, wN, vQ] at *; omega)) | assumption) | refine sG (fun _ => ?_) fun _ => ?_ | refine aG ?_ | refine sH (fun _ => ?_) fun _ => ?_ | fail)
  simp only [List.append_assoc, hk]
 ·((first | refine aC ?_ | skip); refine bE (cf := bZ) rfl rfl rfl rfl ?_; unfold bZ; dsimp only [aA, Nat.reduceAdd, Nat.zero_add])
  repeat' (first | refine aF ?_ | refine yc ?_ (ha := by first | exact hmay _ _ | (show Call _ _ aV [.sl _ 0 _, _, _] _ = _; exact C1 (w := 1) (by decide) (by omega) (by omega)) | (show Call _ _ aV [_, _, .int _ 1] _ = _; exact pM (w := 1) (by decide) (by omega) (by omega) (by simp only [List.length_append, mQ, vP, wN, vQ]; omega)) | (show Call _ _ aV [_, _, .int _ 4] _ = _; exact pM (w := 4) (by decide) (by omega) (by omega) (by simp only [List.length_append, mQ, vP, wN, vQ]; omega)) | (show Call _ _ iD _ _ = _; exact yI (by simp only [List.length_append, mQ, vP, wN, vQ] at *; omega)) | assumption) | refine sG (fun _ => ?_) fun _ => ?_ | refine aG ?_ | refine sH (fun _ => ?_) fun _ => ?_ | fail)
  simp only [List.append_assoc, hk]
end Go.Abs
