/- A part of the proof of RowSpeakSync: lemmas alone, without conditions. -/
import Derived.Test.YtpcnjabfiahhhaaGreatDoorJ23
import Derived.KernelRfl
set_option linter.all false
namespace Go.Abs
open Go.Proofs.YtpcnjabfiahhhaaGreatDoor
attribute [local irreducible] enL R RR gT fU rC gG gU qS apply fW gZ bQ cC fB bN iN bK bG eS cV lA dU V.rb V.rbL
abbrev W4 (w : Nat) : Prop := w = 1 ∨ w = 2 ∨ w = 4 ∨ w = 6
def bc (n k : Int) : V := .int .u8 (IntKind.u8.wrap (n.fdiv k))
theorem tV {n k m : Int} (hk : 0 ≤ k) (h : n / k = m) : V.int .u8 ((b8 m).toNat : Int) = bc n k := by
 unfold bc; rw [aO6, Int.fdiv_eq_ediv_of_nonneg _ hk, h]
theorem aBd (c : UInt8) (l : List UInt8) : enL (c :: l) = .int .u8 (c.toNat : Int) :: enL l := by rw [cM]; rfl
theorem be1 (n : Int) : enL (be n 1) = [bc n 1] := by
 simp only [be, List.nil_append, aBd, bJ]
 rw [tV (k := 1) (n := n) (by omega) (by omega)]
theorem be2 (n : Int) : enL (be n 2) = [bc n 256, bc n 1] := by
 simp only [be, List.nil_append, List.cons_append, aBd, bJ]
 rw [tV (k := 256) (n := n) (by omega) (by omega), tV (k := 1) (n := n) (by omega) (by omega)]
theorem be4 (n : Int) : enL (be n 4) = [bc n 16777216, bc n 65536, bc n 256, bc n 1] := by
 simp only [be, List.nil_append, List.cons_append, aBd, bJ]
 rw [tV (k := 16777216) (n := n) (by omega) (by omega), tV (k := 65536) (n := n) (by omega) (by omega), tV (k := 256) (n := n) (by omega) (by omega), tV (k := 1) (n := n) (by omega) (by omega)]
theorem be6 (n : Int) : enL (be n 6) = [bc n 1099511627776, bc n 4294967296, bc n 16777216, bc n 65536, bc n 256, bc n 1] := by
 simp only [be, List.nil_append, List.cons_append, aBd, bJ]
 rw [tV (k := 1099511627776) (n := n) (by omega) (by omega), tV (k := 4294967296) (n := n) (by omega) (by omega), tV (k := 16777216) (n := n) (by omega) (by omega), tV (k := 65536) (n := n) (by omega) (by omega), tV (k := 256) (n := n) (by omega) (by omega), tV (k := 1) (n := n) (by omega) (by omega)]
theorem aZz {s : Option Nat} {H : aB} {n : Int} : Call tab s mA [.int .i64 n, .int .i64 1] H = some (.sl none 1 [bc n 1], H) := aE.2 ⟨20, by kernel_rfl⟩
theorem bA0 {s : Option Nat} {H : aB} {n : Int} : Call tab s mA [.int .i64 n, .int .i64 2] H = some (.sl none 2 [bc n 256, bc n 1], H) := aE.2 ⟨20, by kernel_rfl⟩
theorem bA1 {s : Option Nat} {H : aB} {n : Int} : Call tab s mA [.int .i64 n, .int .i64 4] H = some (.sl none 4 [bc n 16777216, bc n 65536, bc n 256, bc n 1], H) := aE.2 ⟨20, by kernel_rfl⟩
theorem bA2 {s : Option Nat} {H : aB} {n : Int} : Call tab s mA [.int .i64 n, .int .i64 6] H = some (.sl none 6 [bc n 1099511627776, bc n 4294967296, bc n 16777216, bc n 65536, bc n 256, bc n 1], H) := aE.2 ⟨20, by kernel_rfl⟩
theorem aRg {o : Option Nat} (n : Int) (w : Nat) : V.sl o (be n w).length (enL (be n w)) = .sl o w (enL (be n w)) := by rw [pJ]
theorem aH7 {s : Option Nat} {H : aB} {n : Int} {w : Nat} (hw : W4 w) : Call tab s mA [.int .i64 n, .int .i64 (w : Int)] H = some (.sl none (be n w).length (enL (be n w)), H) := by
 rw [aRg]
 rcases hw with rfl | rfl | rfl | rfl
 ·rw [be1]; exact aZz
 ·rw [be2]; exact bA0
 ·rw [be4]; exact bA1
 ·rw [be6]; exact bA2
theorem G2 {s : Option Nat} {H : aB} {w : Int} : Call tab s uZ [.int .i64 w] H = some (.bool (decide (1 ≤ w ∧ w ≤ 7)), H) := by
 ((first | refine aJ ?_ | skip); refine cB (cf := pY) rfl rfl rfl rfl ?_; unfold pY; dsimp only [aC, Nat.reduceAdd, Nat.zero_add])
 repeat' (first | refine aS ?_ | refine yc ?_ | (show zn; refine aA ?_) | (show gA; first | refine aH (fun _ => ?_) fun _ => ?_ | refine gc_E (fun _ => ?_) fun _ => ?_ | refine gc_N (fun _ => ?_) fun _ => ?_ | refine aT ?_ | refine gc_B (fun _ => ?_) fun _ => ?_) | fail)
 all_goals first | (with_reducible rfl) | (simp only [Option.some.injEq, Prod.mk.injEq, V.bool.injEq, V.tup.injEq, V.int.injEq, List.cons.injEq, and_true, true_and]; first | done | (rw [Bool.eq_iff_iff]; simp only [decide_eq_true_eq, Bool.false_eq_true, Bool.true_eq_false, false_iff, iff_false, true_iff, iff_true, Bool.not_eq_true, decide_eq_false_iff_not, Bool.and_eq_true, Bool.or_eq_true]; omega) | omega)
theorem aT0 {k : IntKind} {w : Nat} (hw : W4 w) (hk : k = .i64 ∨ k = .u64) : IntKind.i64.wrap (1 * (2 : Int) ^ (min (Int.toNat (8 * (w : Int))) IntKind.i64.bits)) = 256 ^ w := by
 rcases hw with rfl | rfl | rfl | rfl <;> decide
theorem aH8 {s : Option Nat} {H : aB} {n : Int} {w : Nat} (hw : W4 w) (h0 : 0 ≤ n) (h1 : n < 256 ^ w) : Call tab s j5 [.int .i64 n, .int .i64 (w : Int)] H = some (.tup [.sl none (be n w).length (enL (be n w)), .bool true], H) := by
 have hp := aT0 (k := .i64) hw (.inl rfl)
 have h8 : IntKind.i64.wrap (8 * (w : Int)) = 8 * (w : Int) := IntWalk.i64_in _ (by rcases hw with rfl | rfl | rfl | rfl <;> decide)
 have hr : decide (1 ≤ (w : Int) ∧ (w : Int) ≤ 7) = true := by rcases hw with rfl | rfl | rfl | rfl <;> decide
 have h9 : 0 ≤ 8 * (w : Int) := by omega
 have hn : ¬ (256 : Int) ^ w ≤ n := by omega
 ((first | refine aJ ?_ | skip); refine cB (cf := pW) rfl rfl rfl rfl ?_; unfold pW; dsimp only [aC, Nat.reduceAdd, Nat.zero_add])
 repeat' (first | refine aS ?_ | refine yc ?_ (ha := by first | exact G2 | exact aH7 hw | assumption) | (show zn; refine aA ?_ (ha := by first | exact G2 | exact aH7 hw | assumption)) | (show gA; first | refine aH (fun _ => ?_) fun _ => ?_ | refine gc_E (fun _ => ?_) fun _ => ?_ | refine gc_N (fun _ => ?_) fun _ => ?_ | refine aT ?_ | refine gc_B (fun _ => ?_) fun _ => ?_) | fail)
 rfl
theorem aD8 {s : Option Nat} {H : aB} {n : Int} (h0 : -140737488355328 ≤ n) (h1 : n < 140737488355328) : Call tab s yX [.int .i64 n, .int .i64 6] H = some (.tup [.sl none (be n 6).length (enL (be n 6)), .bool true], H) := by
 have hp : IntKind.i64.wrap (1 * (2 : Int) ^ (min (Int.toNat (47 : Int)) IntKind.i64.bits)) = 140737488355328 := by decide
 have h8 : IntKind.i64.wrap (8 * (6 : Int)) = 48 := by decide
 have h9 : IntKind.i64.wrap (48 - 1 : Int) = 47 := by decide
 have h7 : IntKind.i64.wrap (0 - 140737488355328 : Int) = -140737488355328 := by decide
 have hr : decide (1 ≤ (6 : Int) ∧ (6 : Int) ≤ 7) = true := by decide
 ((first | refine aJ ?_ | skip); refine cB (cf := oL) rfl rfl rfl rfl ?_; unfold oL; dsimp only [aC, Nat.reduceAdd, Nat.zero_add])
 repeat' (first | refine aS ?_ | refine yc ?_ (ha := by first | exact G2 | exact aH7 (w := 6) (by decide) | assumption) | (show zn; refine aA ?_ (ha := by first | exact G2 | exact aH7 (w := 6) (by decide) | assumption)) | (show gA; first | refine aH (fun _ => ?_) fun _ => ?_ | refine gc_E (fun _ => ?_) fun _ => ?_ | refine gc_N (fun _ => ?_) fun _ => ?_ | refine aT ?_ | refine gc_B (fun _ => ?_) fun _ => ?_) | fail)
 rfl
end Go.Abs
namespace Go.Abs
open Go.Proofs.YtpcnjabfiahhhaaGreatDoor
attribute [local irreducible] enL R RR gT fU rC gG gU qS apply fW gZ bQ cC fB bN iN bK bG eS cV lA dU V.rb V.rbL
theorem bA4 {n : Int} : yC (r6 tab 20) (some 0) 20 (.loop kN) [(0, .int .i64 n), (6, .sl (some 1) 0 []), (7, .int .i64 0)] [] = some (.exit 0, [(0, .int .i64 n), (6, .sl (some 1) 1 [bc n 1]), (7, .int .i64 (-1)), (29, .bool false)], []) := by kernel_rfl
theorem aPp {s : Option Nat} {H : aB} {n : Int} (h0 : 0 ≤ n) (h1 : n < 256) : Call tab s iJ [.int .i64 n, .int .i64 1] H = some (.tup [.sl (some 1) 1 [bc n 1], .bool true], H) := by
 have h8 : IntKind.i64.wrap (8 * (1 : Int)) = 8 := by decide
 have h7 : IntKind.u64.wrap (8 : Int) = 8 := by decide
 have hp : IntKind.i64.wrap (1 * (2 : Int) ^ (min (Int.toNat (8 : Int)) IntKind.i64.bits)) = 256 := by decide
 have h9 : IntKind.i64.wrap (1 - 1 : Int) = 0 := by decide
 ((first | refine aJ ?_ | skip); refine cB (cf := eD) rfl rfl rfl rfl ?_; unfold eD; dsimp only [aC, Nat.reduceAdd, Nat.zero_add])
 repeat' (first | refine aS ?_ | refine yc ?_ | (show zn; refine aA ?_) | (show gA; first | refine aH (fun _ => ?_) fun _ => ?_ | refine gc_E (fun _ => ?_) fun _ => ?_ | refine gc_N (fun _ => ?_) fun _ => ?_ | refine aT ?_ | refine gc_B (fun _ => ?_) fun _ => ?_) | fail)
 refine nT 20 bA4 ?_
 unfold bc
 repeat' (first | refine aS ?_ | refine yc ?_ | (show zn; refine aA ?_) | (show gA; first | refine aH (fun _ => ?_) fun _ => ?_ | refine gc_E (fun _ => ?_) fun _ => ?_ | refine gc_N (fun _ => ?_) fun _ => ?_ | refine aT ?_ | refine gc_B (fun _ => ?_) fun _ => ?_) | fail)
 rfl
theorem bA5 {n : Int} : yC (r6 tab 20) (some 0) 20 (.loop kN) [(0, .int .i64 n), (6, .sl (some 1) 0 []), (7, .int .i64 1)] [] = some (.exit 0, [(0, .int .i64 n), (6, .sl (some 1) 2 [bc n 256, bc n 1]), (7, .int .i64 (-1)), (29, .bool false)], []) := by kernel_rfl
theorem aPq {s : Option Nat} {H : aB} {n : Int} (h0 : 0 ≤ n) (h1 : n < 65536) : Call tab s iJ [.int .i64 n, .int .i64 2] H = some (.tup [.sl (some 1) 2 [bc n 256, bc n 1], .bool true], H) := by
 have h8 : IntKind.i64.wrap (8 * (2 : Int)) = 16 := by decide
 have h7 : IntKind.u64.wrap (16 : Int) = 16 := by decide
 have hp : IntKind.i64.wrap (1 * (2 : Int) ^ (min (Int.toNat (16 : Int)) IntKind.i64.bits)) = 65536 := by decide
 have h9 : IntKind.i64.wrap (2 - 1 : Int) = 1 := by decide
 ((first | refine aJ ?_ | skip); refine cB (cf := eD) rfl rfl rfl rfl ?_; unfold eD; dsimp only [aC, Nat.reduceAdd, Nat.zero_add])
 repeat' (first | refine aS ?_ | refine yc ?_ | (show zn; refine aA ?_) | (show gA; first | refine aH (fun _ => ?_) fun _ => ?_ | refine gc_E (fun _ => ?_) fun _ => ?_ | refine gc_N (fun _ => ?_) fun _ => ?_ | refine aT ?_ | refine gc_B (fun _ => ?_) fun _ => ?_) | fail)
 refine nT 20 bA5 ?_
 unfold bc
 repeat' (first | refine aS ?_ | refine yc ?_ | (show zn; refine aA ?_) | (show gA; first | refine aH (fun _ => ?_) fun _ => ?_ | refine gc_E (fun _ => ?_) fun _ => ?_ | refine gc_N (fun _ => ?_) fun _ => ?_ | refine aT ?_ | refine gc_B (fun _ => ?_) fun _ => ?_) | fail)
 rfl
theorem bA6 {n : Int} : yC (r6 tab 20) (some 0) 20 (.loop kN) [(0, .int .i64 n), (6, .sl (some 1) 0 []), (7, .int .i64 3)] [] = some (.exit 0, [(0, .int .i64 n), (6, .sl (some 1) 4 [bc n 16777216, bc n 65536, bc n 256, bc n 1]), (7, .int .i64 (-1)), (29, .bool false)], []) := by kernel_rfl
theorem aPr {s : Option Nat} {H : aB} {n : Int} (h0 : 0 ≤ n) (h1 : n < 4294967296) : Call tab s iJ [.int .i64 n, .int .i64 4] H = some (.tup [.sl (some 1) 4 [bc n 16777216, bc n 65536, bc n 256, bc n 1], .bool true], H) := by
 have h8 : IntKind.i64.wrap (8 * (4 : Int)) = 32 := by decide
 have h7 : IntKind.u64.wrap (32 : Int) = 32 := by decide
 have hp : IntKind.i64.wrap (1 * (2 : Int) ^ (min (Int.toNat (32 : Int)) IntKind.i64.bits)) = 4294967296 := by decide
 have h9 : IntKind.i64.wrap (4 - 1 : Int) = 3 := by decide
 ((first | refine aJ ?_ | skip); refine cB (cf := eD) rfl rfl rfl rfl ?_; unfold eD; dsimp only [aC, Nat.reduceAdd, Nat.zero_add])
 repeat' (first | refine aS ?_ | refine yc ?_ | (show zn; refine aA ?_) | (show gA; first | refine aH (fun _ => ?_) fun _ => ?_ | refine gc_E (fun _ => ?_) fun _ => ?_ | refine gc_N (fun _ => ?_) fun _ => ?_ | refine aT ?_ | refine gc_B (fun _ => ?_) fun _ => ?_) | fail)
 refine nT 20 bA6 ?_
 unfold bc
 repeat' (first | refine aS ?_ | refine yc ?_ | (show zn; refine aA ?_) | (show gA; first | refine aH (fun _ => ?_) fun _ => ?_ | refine gc_E (fun _ => ?_) fun _ => ?_ | refine gc_N (fun _ => ?_) fun _ => ?_ | refine aT ?_ | refine gc_B (fun _ => ?_) fun _ => ?_) | fail)
 rfl
theorem bA7 {n : Int} : yC (r6 tab 20) (some 0) 20 (.loop kN) [(0, .int .i64 n), (6, .sl (some 1) 0 []), (7, .int .i64 5)] [] = some (.exit 0, [(0, .int .i64 n), (6, .sl (some 1) 6 [bc n 1099511627776, bc n 4294967296, bc n 16777216, bc n 65536, bc n 256, bc n 1]), (7, .int .i64 (-1)), (29, .bool false)], []) := by kernel_rfl
theorem aPs {s : Option Nat} {H : aB} {n : Int} (h0 : 0 ≤ n) (h1 : n < 281474976710656) : Call tab s iJ [.int .i64 n, .int .i64 6] H = some (.tup [.sl (some 1) 6 [bc n 1099511627776, bc n 4294967296, bc n 16777216, bc n 65536, bc n 256, bc n 1], .bool true], H) := by
 have h8 : IntKind.i64.wrap (8 * (6 : Int)) = 48 := by decide
 have h7 : IntKind.u64.wrap (48 : Int) = 48 := by decide
 have hp : IntKind.i64.wrap (1 * (2 : Int) ^ (min (Int.toNat (48 : Int)) IntKind.i64.bits)) = 281474976710656 := by decide
 have h9 : IntKind.i64.wrap (6 - 1 : Int) = 5 := by decide
 ((first | refine aJ ?_ | skip); refine cB (cf := eD) rfl rfl rfl rfl ?_; unfold eD; dsimp only [aC, Nat.reduceAdd, Nat.zero_add])
 repeat' (first | refine aS ?_ | refine yc ?_ | (show zn; refine aA ?_) | (show gA; first | refine aH (fun _ => ?_) fun _ => ?_ | refine gc_E (fun _ => ?_) fun _ => ?_ | refine gc_N (fun _ => ?_) fun _ => ?_ | refine aT ?_ | refine gc_B (fun _ => ?_) fun _ => ?_) | fail)
 refine nT 20 bA7 ?_
 unfold bc
 repeat' (first | refine aS ?_ | refine yc ?_ | (show zn; refine aA ?_) | (show gA; first | refine aH (fun _ => ?_) fun _ => ?_ | refine gc_E (fun _ => ?_) fun _ => ?_ | refine gc_N (fun _ => ?_) fun _ => ?_ | refine aT ?_ | refine gc_B (fun _ => ?_) fun _ => ?_) | fail)
 rfl
theorem tW {s : Option Nat} {H : aB} {n : Int} {w : Nat} (hw : W4 w) (h0 : 0 ≤ n) (h1 : n < 256 ^ w) : Call tab s iJ [.int .i64 n, .int .i64 (w : Int)] H = some (.tup [.sl (some 1) (be n w).length (enL (be n w)), .bool true], H) := by
 rw [aRg]
 rcases hw with rfl | rfl | rfl | rfl
 ·rw [be1]; exact aPp h0 (by omega)
 ·rw [be2]; exact aPq h0 (by omega)
 ·rw [be4]; exact aPr h0 (by omega)
 ·rw [be6]; exact aPs h0 (by omega)
theorem Z9 {s : Option Nat} {H : aB} {n : Int} (h0 : -140737488355328 ≤ n) (h1 : n < 140737488355328) : Call tab s oG [.int .i64 n, .int .i64 6] H = some (.tup [.sl (some 1) (be n 6).length (enL (be n 6)), .bool true], H) := by
 have h8 : IntKind.i64.wrap (8 * (6 : Int)) = 48 := by decide
 have h6 : IntKind.i64.wrap (48 - 1 : Int) = 47 := by decide
 have h7 : IntKind.u64.wrap (48 : Int) = 48 := by decide
 have h5 : IntKind.u64.wrap (47 : Int) = 47 := by decide
 have hp : IntKind.i64.wrap (1 * (2 : Int) ^ (min (Int.toNat (47 : Int)) IntKind.i64.bits)) = 140737488355328 := by decide
 have hq : IntKind.i64.wrap (1 * (2 : Int) ^ (min (Int.toNat (48 : Int)) IntKind.i64.bits)) = 281474976710656 := by decide
 have h9 : IntKind.i64.wrap (0 - 140737488355328 : Int) = -140737488355328 := by decide
 ((first | refine aJ ?_ | skip); refine cB (cf := oP) rfl rfl rfl rfl ?_; unfold oP; dsimp only [aC, Nat.reduceAdd, Nat.zero_add])
 by_cases hn : n < 0
 ·have e : be (n + 281474976710656) 6 = be n 6 := aT8 n 6 1
  have hs : IntKind.i64.wrap (n + 281474976710656) = n + 281474976710656 := IntWalk.i64_in _ (by omega)
  rw [← e]
  repeat' (first | refine aS ?_ | refine yc ?_ (ha := by first | exact tW (w := 6) (by decide) (by omega) (by omega) | assumption) | (show zn; refine aA ?_ (ha := by first | exact tW (w := 6) (by decide) (by omega) (by omega) | assumption)) | (show gA; first | refine aH (fun _ => ?_) fun _ => ?_ | refine gc_E (fun _ => ?_) fun _ => ?_ | refine gc_N (fun _ => ?_) fun _ => ?_ | refine aT ?_ | refine gc_B (fun _ => ?_) fun _ => ?_) | fail)
  rfl
 ·repeat' (first | refine aS ?_ | refine yc ?_ (ha := by first | exact tW (w := 6) (by decide) (by omega) (by omega) | assumption) | (show zn; refine aA ?_ (ha := by first | exact tW (w := 6) (by decide) (by omega) (by omega) | assumption)) | (show gA; first | refine aH (fun _ => ?_) fun _ => ?_ | refine gc_E (fun _ => ?_) fun _ => ?_ | refine gc_N (fun _ => ?_) fun _ => ?_ | refine aT ?_ | refine gc_B (fun _ => ?_) fun _ => ?_) | fail)
  rfl
theorem eR {s : Option Nat} {H : aB} {b : List UInt8} {n : Int} {w : Nat} (hw : W4 w) (h0 : 0 ≤ n) (h1 : n < 256 ^ w) (hb : b.length ≤ 1000000) : Call tab s aP [.sl (some 1) b.length (enL b), .int .i64 n, .int .i64 (w : Int)] H = some (.sl (some 1) (b ++ be n w).length (enL (b ++ be n w)), H) := by
 have hl : (be n w).length ≤ 6 := by rw [pJ]; rcases hw with rfl | rfl | rfl | rfl <;> decide
 ((first | refine aJ ?_ | skip); refine cB (cf := vQ) rfl rfl rfl rfl ?_; unfold vQ; dsimp only [aC, Nat.reduceAdd, Nat.zero_add])
 repeat' (first | refine aS ?_ | refine yc ?_ (ha := by first | exact tW hw h0 h1 | assumption) | (show zn; refine aA ?_ (ha := by first | exact tW hw h0 h1 | assumption)) | (show gA; first | refine aH (fun _ => ?_) fun _ => ?_ | refine gc_E (fun _ => ?_) fun _ => ?_ | refine gc_N (fun _ => ?_) fun _ => ?_ | refine aT ?_ | refine gc_B (fun _ => ?_) fun _ => ?_) | fail)
 rfl
theorem oJ {s : Option Nat} {H : aB} {n : Int} {w : Nat} (hw : W4 w) (h0 : 0 ≤ n) (h1 : n < 256 ^ w) : Call tab s aP [.sl (some 1) 0 [], .int .i64 n, .int .i64 (w : Int)] H = some (.sl (some 1) (be n w).length (enL (be n w)), H) := by
 have := eR (s := s) (H := H) (b := []) hw h0 h1 (by decide)
 rwa [bJ, List.nil_append] at this
def mG (l : List Int) : List UInt8 := l.flatMap fun x => be x 1
theorem t4 (l : List Int) : (mG l).length = l.length := by
 unfold mG
 induction l with
 | nil => rfl
 | cons x l ih => rw [List.flatMap_cons, List.length_append, pJ, ih, List.length_cons]; omega
theorem J4 {l : List Int} {i : Nat} {x : Int} (h : l[i]? = some x) : mG (l.take (i + 1)) = mG (l.take i) ++ be x 1 := by
 unfold mG
 rw [← oB h, List.flatMap_append]; simp
theorem vA {s : Option Nat} {H : aB} {b : List UInt8} {l : List Int} (hl : eP l) (hb : b.length ≤ 1000) : Call tab s fG [.sl (some 1) b.length (enL b), .sl none l.length (enL l)] H = some (.sl (some 1) (b ++ Z0 l).length (enL (b ++ Z0 l)), H) := by
 obtain ⟨l1, l2, l3⟩ := hl
 have e1 : ∀ n : Int, (be n 1).length = 1 := fun n => pJ n 1
 have e2 := e1 l.length
 show _ = some (V.sl (some 1) (b ++ (be l.length 1 ++ mG l)).length (enL (b ++ (be l.length 1 ++ mG l))), H)
 rw [← List.append_assoc]
 ((first | refine aJ ?_ | skip); refine cB (cf := nG) rfl rfl rfl rfl ?_; unfold nG; dsimp only [aC, Nat.reduceAdd, Nat.zero_add])
 repeat' (first | refine aS ?_ | refine yc ?_ (ha := by first | exact eR (w := 1) (by decide) (by omega) (by omega) (by omega) | assumption) | (show zn; refine aA ?_ (ha := by first | exact eR (w := 1) (by decide) (by omega) (by omega) (by omega) | assumption)) | (show gA; first | refine aH (fun _ => ?_) fun _ => ?_ | refine gc_E (fun _ => ?_) fun _ => ?_ | refine gc_N (fun _ => ?_) fun _ => ?_ | refine aT ?_ | refine gc_B (fun _ => ?_) fun _ => ?_) | fail)
 refine yP l.length (fun i (_ : Unit) => [(0, V.sl (some 1) (b ++ be l.length 1 ++ mG (l.take i)).length (enL (b ++ be l.length 1 ++ mG (l.take i)))), (5, .int .i64 i)]) (fun _ _ => []) (fun _ _ => True) ?_ ?_ () trivial (by simp only [List.take_zero, mG, List.flatMap_nil, List.append_nil]; rfl)
 ·intro i _ hi _ ih
  obtain ⟨x, hx⟩ := yO hi
  have hx2 := l3 x (List.mem_of_getElem? hx)
  rw [J4 hx, ← List.append_assoc] at ih
  have e3 : (mG (l.take i)).length ≤ 6 := by rw [t4, List.length_take]; omega
  generalize mG (l.take i) = q at *
  have hw : IntKind.i64.wrap ((i : Int) + 1) = ((i + 1 : Nat) : Int) := IntWalk.i64_in _ (by omega)
  have hil : (i : Int) < (l.length : Int) := by omega
  refine cG (by dsimp only [qG, lk, Nat.reduceBEq, cond_true, cond_false, Option.getD_some, Option.getD_none]; first | done | exact rfl) ?_; refine bB ?_
  unfold nV
  repeat' (first | refine aS ?_ | refine yc ?_ (ha := by first | exact eR (w := 1) (by decide) (by omega) (by omega) (by simp only [List.length_append]; omega) | assumption) | (show zn; refine aA ?_ (ha := by first | exact eR (w := 1) (by decide) (by omega) (by omega) (by simp only [List.length_append]; omega) | assumption)) | (show gA; first | refine aH (fun _ => ?_) fun _ => ?_ | refine gc_E (fun _ => ?_) fun _ => ?_ | refine gc_N (fun _ => ?_) fun _ => ?_ | refine aT ?_ | refine gc_B (fun _ => ?_) fun _ => ?_) | fail)
  refine jW ?_
  exact ih () trivial
 ·intro _ _
  rw [List.take_length]
  refine cG (by dsimp only [qG, lk, Nat.reduceBEq, cond_true, cond_false, Option.getD_some, Option.getD_none]; first | done | exact rfl) ?_; refine bB ?_
  unfold nV
  repeat' (first | refine aS ?_ | refine yc ?_ | (show zn; refine aA ?_) | (show gA; first | refine aH (fun _ => ?_) fun _ => ?_ | refine gc_E (fun _ => ?_) fun _ => ?_ | refine gc_N (fun _ => ?_) fun _ => ?_ | refine aT ?_ | refine gc_B (fun _ => ?_) fun _ => ?_) | fail)
  rfl
end Go.Abs
namespace Go.Abs
open Go.Proofs.YtpcnjabfiahhhaaGreatDoor
attribute [local irreducible] enL R RR gT fU rC gG gU qS apply fW gZ bQ cC fB bN iN bK bG eS cV lA dU V.rb V.rbL
def bV (b : List UInt8) : List V := [.sl (some 1) b.length (enL b)]
def beL (w : Nat) (l : List Int) : List UInt8 := l.flatMap fun x => be x w
theorem aOr {w : Nat} {l : List Int} {i : Nat} {x : Int} (h : l[i]? = some x) : beL w (l.take (i + 1)) = beL w (l.take i) ++ be x w := by
 unfold beL
 rw [← oB h, List.flatMap_append]; simp
theorem aR3 (w : Nat) (l : List Int) : (beL w l).length = l.length * w := by
 unfold beL
 induction l with
 | nil => simp
 | cons x l ih => rw [List.flatMap_cons, List.length_append, pJ, ih, List.length_cons, Nat.succ_mul]; omega
theorem aFh {H : aB} {id : Nat} {a b : List V} (h : H[id]? = some a) : (H.set id b)[id]? = some b := by
 rw [List.getElem?_set_self (List.getElem?_eq_some_iff.1 h).1]
theorem aJf {H : aB} {id : Nat} {a : List V} (h : H[id]? = some a) : H.set id a = H := by
 obtain ⟨hl, rfl⟩ := List.getElem?_eq_some_iff.1 h
 exact List.set_getElem_self hl
set_option maxHeartbeats 1000000 in
theorem S7 {H : aB} {lm id w : Nat} {b : List UInt8} {l : List Int} (hid : H[id]? = some (bV b)) (hlm : lm ≤ id) (hw : W4 w) (hl : ∀ x ∈ l, 0 ≤ x ∧ x < 256 ^ w) (hll : l.length ≤ 1000) (hb : b.length ≤ 1000000) :
 Call tab (some lm) aD [.ptr id 0, .int .i64 (w : Int), .sl none l.length (enL l)] H = some (.tup [], H.set id (bV (b ++ beL w l))) := by
 have h0 := aJf hid
 have hlen : id < H.length := (List.getElem?_eq_some_iff.1 hid).1
 ((first | refine aJ ?_ | skip); refine aI7 (cf := gL) rfl rfl rfl (by decide) ?_; unfold gL; dsimp only [aC, Nat.reduceAdd, Nat.zero_add])
 repeat' (first | refine aS ?_ | refine yc ?_ | (show zn; refine aA ?_) | (show gA; first | refine aH (fun _ => ?_) fun _ => ?_ | refine gc_E (fun _ => ?_) fun _ => ?_ | refine gc_N (fun _ => ?_) fun _ => ?_ | refine aT ?_ | refine gc_B (fun _ => ?_) fun _ => ?_) | fail)
 refine yP l.length (fun i (_ : Unit) => [(12, .int .i64 i)]) (fun i _ => H.set id (bV (b ++ beL w (l.take i)))) (fun _ _ => True) ?_ ?_ () trivial rfl (by simp only [List.take_zero, beL, List.flatMap_nil, List.append_nil]; exact h0)
 ·intro i _ hi _ ih
  obtain ⟨x, hx⟩ := yO hi
  have hx2 := hl x (List.mem_of_getElem? hx)
  have hbl : (beL w (l.take i)).length ≤ 6000 := by
   rw [aR3, List.length_take]
   have : min i l.length * w ≤ 1000 * 6 := Nat.mul_le_mul (by omega) (by rcases hw with rfl | rfl | rfl | rfl <;> decide)
   omega
  have hbx : (be x w).length ≤ 6 := by rw [pJ]; rcases hw with rfl | rfl | rfl | rfl <;> decide
  rw [aOr hx, ← List.append_assoc] at ih
  have hid2 := aFh (b := bV (b ++ beL w (l.take i))) hid
  have hlen2 : (H.set id (bV (b ++ beL w (l.take i)))).length = H.length := List.length_set ..
  generalize hq : beL w (l.take i) = q at *
  have hse : ∀ c, (H.set id (bV (b ++ q))).set id c = H.set id c := fun c => List.set_set ..
  generalize hG : H.set id (bV (b ++ q)) = G at *
  unfold bV at hid2
  have hwi : IntKind.i64.wrap ((i : Int) + 1) = ((i + 1 : Nat) : Int) := IntWalk.i64_in _ (by omega)
  have hil : (i : Int) < (l.length : Int) := by omega
  have hcap : (b ++ q).length ≤ 1006000 := by rw [List.length_append]; omega
  refine cG (by dsimp only [qG, lk, Nat.reduceBEq, cond_true, cond_false, Option.getD_some, Option.getD_none]; first | done | exact rfl) ?_; refine bB ?_
  unfold iP
  repeat' (first | refine aS ?_ | refine yc ?_ (ha := by first | exact aH8 hw hx2.1 hx2.2 | assumption) | (show zn; refine aA ?_ (ha := by first | exact aH8 hw hx2.1 hx2.2 | assumption)) | (show gA; first | refine aH (fun _ => ?_) fun _ => ?_ | refine gc_E (fun _ => ?_) fun _ => ?_ | refine gc_N (fun _ => ?_) fun _ => ?_ | refine aT ?_ | refine gc_B (fun _ => ?_) fun _ => ?_) | fail)
  refine jW ?_
  have := ih () trivial
  simp only [List.set_set, hse, List.set_cons_zero] at *
  exact this
 ·intro _ _
  rw [List.take_length]
  refine cG (by dsimp only [qG, lk, Nat.reduceBEq, cond_true, cond_false, Option.getD_some, Option.getD_none]; first | done | exact rfl) ?_; refine bB ?_
  unfold iP
  repeat' (first | refine aS ?_ | refine yc ?_ | (show zn; refine aA ?_) | (show gA; first | refine aH (fun _ => ?_) fun _ => ?_ | refine gc_E (fun _ => ?_) fun _ => ?_ | refine gc_N (fun _ => ?_) fun _ => ?_ | refine aT ?_ | refine gc_B (fun _ => ?_) fun _ => ?_) | fail)
  rfl
end Go.Abs
