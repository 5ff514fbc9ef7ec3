/- A part of the proof of RowSpeakOffers, RowSpeakMessages: lemmas alone, without conditions. -/
import Derived.Test.YtpcnjabfiahhhaaGreatDoorK48
set_option linter.all false
namespace Go.Abs
open Go.Proofs.YtpcnjabfiahhhaaGreatDoor
def xO (c : Config) (P : Nat → List Port) : Prop := ∀ s H (p : Nat) (n : Int), p < c.parts.length → Call tab s bN [c.v, .int .i64 c.links.length, .int .i64 (p : Int), .int .i64 n] H = some (eD (P p) n, H)
section
variable {s : Option Nat} {H : aC} (x : Nums)
theorem aVf (n : Int) : Call tab s bN [(bM 0 x).v, .int .i64 ((bM 0 x).links.length : Int), .int .i64 ((0 : Nat) : Int), .int .i64 n] H = some (eD (aE 0 0) n, H) := by
 rcases n with (_ | _ | _ | _ | _ | _ | j) | j
 all_goals exact aD.2 ⟨60, by kernel_rfl⟩
theorem aRr : xO (bM 0 x) (aE 0) := by
 intro s H p n hp
 have hp2 : p < 1 := hp
 obtain rfl : p = 0 := by omega
 exact aVf x n
theorem aVg (n : Int) : Call tab s bN [(bM 1 x).v, .int .i64 ((bM 1 x).links.length : Int), .int .i64 ((0 : Nat) : Int), .int .i64 n] H = some (eD (aE 1 0) n, H) := by
 rcases n with (_ | _ | _ | _ | _ | _ | j) | j
 all_goals exact aD.2 ⟨60, by kernel_rfl⟩
theorem aVh (n : Int) : Call tab s bN [(bM 1 x).v, .int .i64 ((bM 1 x).links.length : Int), .int .i64 ((1 : Nat) : Int), .int .i64 n] H = some (eD (aE 1 1) n, H) := by
 rcases n with (_ | _ | _ | _ | _ | _ | j) | j
 all_goals exact aD.2 ⟨60, by kernel_rfl⟩
theorem aRs : xO (bM 1 x) (aE 1) := by
 intro s H p n hp
 have hp2 : p < 2 := hp
 rcases (show p = 0 ∨ p = 1 by omega) with rfl | rfl
 ·exact aVg x n
 ·exact aVh x n
theorem aVi (n : Int) : Call tab s bN [(bM 2 x).v, .int .i64 ((bM 2 x).links.length : Int), .int .i64 ((0 : Nat) : Int), .int .i64 n] H = some (eD (aE 2 0) n, H) := by
 rcases n with (_ | _ | _ | _ | _ | _ | j) | j
 all_goals exact aD.2 ⟨60, by kernel_rfl⟩
theorem aVj (n : Int) : Call tab s bN [(bM 2 x).v, .int .i64 ((bM 2 x).links.length : Int), .int .i64 ((1 : Nat) : Int), .int .i64 n] H = some (eD (aE 2 1) n, H) := by
 rcases n with (_ | _ | _ | _ | _ | _ | j) | j
 all_goals exact aD.2 ⟨60, by kernel_rfl⟩
theorem aVk (n : Int) : Call tab s bN [(bM 2 x).v, .int .i64 ((bM 2 x).links.length : Int), .int .i64 ((2 : Nat) : Int), .int .i64 n] H = some (eD (aE 2 2) n, H) := by
 rcases n with (_ | _ | _ | _ | _ | _ | j) | j
 all_goals exact aD.2 ⟨60, by kernel_rfl⟩
theorem aRt : xO (bM 2 x) (aE 2) := by
 intro s H p n hp
 have hp2 : p < 3 := hp
 rcases (show p = 0 ∨ p = 1 ∨ p = 2 by omega) with rfl | rfl | rfl
 ·exact aVi x n
 ·exact aVj x n
 ·exact aVk x n
theorem aVl (n : Int) : Call tab s bN [(bM 3 x).v, .int .i64 ((bM 3 x).links.length : Int), .int .i64 ((0 : Nat) : Int), .int .i64 n] H = some (eD (aE 3 0) n, H) := by
 rcases n with (_ | _ | _ | _ | _ | _ | j) | j
 all_goals exact aD.2 ⟨60, by kernel_rfl⟩
theorem aVm (n : Int) : Call tab s bN [(bM 3 x).v, .int .i64 ((bM 3 x).links.length : Int), .int .i64 ((1 : Nat) : Int), .int .i64 n] H = some (eD (aE 3 1) n, H) := by
 rcases n with (_ | _ | _ | _ | _ | _ | j) | j
 all_goals exact aD.2 ⟨60, by kernel_rfl⟩
theorem aVn (n : Int) : Call tab s bN [(bM 3 x).v, .int .i64 ((bM 3 x).links.length : Int), .int .i64 ((2 : Nat) : Int), .int .i64 n] H = some (eD (aE 3 2) n, H) := by
 rcases n with (_ | _ | _ | _ | _ | _ | j) | j
 all_goals exact aD.2 ⟨60, by kernel_rfl⟩
theorem aRu : xO (bM 3 x) (aE 3) := by
 intro s H p n hp
 have hp2 : p < 3 := hp
 rcases (show p = 0 ∨ p = 1 ∨ p = 2 by omega) with rfl | rfl | rfl
 ·exact aVl x n
 ·exact aVm x n
 ·exact aVn x n
theorem aVo (n : Int) : Call tab s bN [(bM 4 x).v, .int .i64 ((bM 4 x).links.length : Int), .int .i64 ((0 : Nat) : Int), .int .i64 n] H = some (eD (aE 4 0) n, H) := by
 rcases n with (_ | _ | _ | _ | _ | _ | j) | j
 all_goals exact aD.2 ⟨60, by kernel_rfl⟩
theorem aVp (n : Int) : Call tab s bN [(bM 4 x).v, .int .i64 ((bM 4 x).links.length : Int), .int .i64 ((1 : Nat) : Int), .int .i64 n] H = some (eD (aE 4 1) n, H) := by
 rcases n with (_ | _ | _ | _ | _ | _ | j) | j
 all_goals exact aD.2 ⟨60, by kernel_rfl⟩
theorem aVq (n : Int) : Call tab s bN [(bM 4 x).v, .int .i64 ((bM 4 x).links.length : Int), .int .i64 ((2 : Nat) : Int), .int .i64 n] H = some (eD (aE 4 2) n, H) := by
 rcases n with (_ | _ | _ | _ | _ | _ | j) | j
 all_goals exact aD.2 ⟨60, by kernel_rfl⟩
theorem aRv : xO (bM 4 x) (aE 4) := by
 intro s H p n hp
 have hp2 : p < 3 := hp
 rcases (show p = 0 ∨ p = 1 ∨ p = 2 by omega) with rfl | rfl | rfl
 ·exact aVo x n
 ·exact aVp x n
 ·exact aVq x n
theorem aVr (n : Int) : Call tab s bN [(bM 5 x).v, .int .i64 ((bM 5 x).links.length : Int), .int .i64 ((0 : Nat) : Int), .int .i64 n] H = some (eD (aE 5 0) n, H) := by
 rcases n with (_ | _ | _ | _ | _ | _ | j) | j
 all_goals exact aD.2 ⟨60, by kernel_rfl⟩
theorem aVs (n : Int) : Call tab s bN [(bM 5 x).v, .int .i64 ((bM 5 x).links.length : Int), .int .i64 ((1 : Nat) : Int), .int .i64 n] H = some (eD (aE 5 1) n, H) := by
 rcases n with (_ | _ | _ | _ | _ | _ | j) | j
 all_goals exact aD.2 ⟨60, by kernel_rfl⟩
theorem aVt (n : Int) : Call tab s bN [(bM 5 x).v, .int .i64 ((bM 5 x).links.length : Int), .int .i64 ((2 : Nat) : Int), .int .i64 n] H = some (eD (aE 5 2) n, H) := by
 rcases n with (_ | _ | _ | _ | _ | _ | j) | j
 all_goals exact aD.2 ⟨60, by kernel_rfl⟩
theorem aVu (n : Int) : Call tab s bN [(bM 5 x).v, .int .i64 ((bM 5 x).links.length : Int), .int .i64 ((3 : Nat) : Int), .int .i64 n] H = some (eD (aE 5 3) n, H) := by
 rcases n with (_ | _ | _ | _ | _ | _ | j) | j
 all_goals exact aD.2 ⟨60, by kernel_rfl⟩
theorem aRw : xO (bM 5 x) (aE 5) := by
 intro s H p n hp
 have hp2 : p < 4 := hp
 rcases (show p = 0 ∨ p = 1 ∨ p = 2 ∨ p = 3 by omega) with rfl | rfl | rfl | rfl
 ·exact aVr x n
 ·exact aVs x n
 ·exact aVt x n
 ·exact aVu x n
theorem aVv (n : Int) : Call tab s bN [(bM 6 x).v, .int .i64 ((bM 6 x).links.length : Int), .int .i64 ((0 : Nat) : Int), .int .i64 n] H = some (eD (aE 6 0) n, H) := by
 rcases n with (_ | _ | _ | _ | _ | _ | j) | j
 all_goals exact aD.2 ⟨60, by kernel_rfl⟩
theorem aVw (n : Int) : Call tab s bN [(bM 6 x).v, .int .i64 ((bM 6 x).links.length : Int), .int .i64 ((1 : Nat) : Int), .int .i64 n] H = some (eD (aE 6 1) n, H) := by
 rcases n with (_ | _ | _ | _ | _ | _ | j) | j
 all_goals exact aD.2 ⟨60, by kernel_rfl⟩
theorem aVx (n : Int) : Call tab s bN [(bM 6 x).v, .int .i64 ((bM 6 x).links.length : Int), .int .i64 ((2 : Nat) : Int), .int .i64 n] H = some (eD (aE 6 2) n, H) := by
 rcases n with (_ | _ | _ | _ | _ | _ | j) | j
 all_goals exact aD.2 ⟨60, by kernel_rfl⟩
theorem aVy (n : Int) : Call tab s bN [(bM 6 x).v, .int .i64 ((bM 6 x).links.length : Int), .int .i64 ((3 : Nat) : Int), .int .i64 n] H = some (eD (aE 6 3) n, H) := by
 rcases n with (_ | _ | _ | _ | _ | _ | j) | j
 all_goals exact aD.2 ⟨60, by kernel_rfl⟩
theorem aRx : xO (bM 6 x) (aE 6) := by
 intro s H p n hp
 have hp2 : p < 4 := hp
 rcases (show p = 0 ∨ p = 1 ∨ p = 2 ∨ p = 3 by omega) with rfl | rfl | rfl | rfl
 ·exact aVv x n
 ·exact aVw x n
 ·exact aVx x n
 ·exact aVy x n
theorem aVz (n : Int) : Call tab s bN [(bM 7 x).v, .int .i64 ((bM 7 x).links.length : Int), .int .i64 ((0 : Nat) : Int), .int .i64 n] H = some (eD (aE 7 0) n, H) := by
 rcases n with (_ | _ | _ | _ | _ | _ | j) | j
 all_goals exact aD.2 ⟨60, by kernel_rfl⟩
theorem aW0 (n : Int) : Call tab s bN [(bM 7 x).v, .int .i64 ((bM 7 x).links.length : Int), .int .i64 ((1 : Nat) : Int), .int .i64 n] H = some (eD (aE 7 1) n, H) := by
 rcases n with (_ | _ | _ | _ | _ | _ | j) | j
 all_goals exact aD.2 ⟨60, by kernel_rfl⟩
theorem aW1 (n : Int) : Call tab s bN [(bM 7 x).v, .int .i64 ((bM 7 x).links.length : Int), .int .i64 ((2 : Nat) : Int), .int .i64 n] H = some (eD (aE 7 2) n, H) := by
 rcases n with (_ | _ | _ | _ | _ | _ | j) | j
 all_goals exact aD.2 ⟨60, by kernel_rfl⟩
theorem aW2 (n : Int) : Call tab s bN [(bM 7 x).v, .int .i64 ((bM 7 x).links.length : Int), .int .i64 ((3 : Nat) : Int), .int .i64 n] H = some (eD (aE 7 3) n, H) := by
 rcases n with (_ | _ | _ | _ | _ | _ | j) | j
 all_goals exact aD.2 ⟨60, by kernel_rfl⟩
theorem aRy : xO (bM 7 x) (aE 7) := by
 intro s H p n hp
 have hp2 : p < 4 := hp
 rcases (show p = 0 ∨ p = 1 ∨ p = 2 ∨ p = 3 by omega) with rfl | rfl | rfl | rfl
 ·exact aVz x n
 ·exact aW0 x n
 ·exact aW1 x n
 ·exact aW2 x n
end
theorem lC : ∀ (k p : Nat), (aE k p).length ≤ 1000 := by
 intro k p; unfold aE; split <;> decide
end Go.Abs
