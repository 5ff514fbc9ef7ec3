/- A part of the proof of RowSpeakOffers, RowSpeakMessages: lemmas alone, without conditions. -/
import Derived.Test.YtpcnjabfiahhhaaGreatDoorK33
set_option linter.all false
namespace Go.Abs
open Go.Proofs.YtpcnjabfiahhhaaGreatDoor
section
variable {s : Option Nat} {H : aC} (x : Nums)
theorem bBl : Call tab s eR [(bM 6 x).v] H = some (.tup [.int .i64 0, .int .i64 0], H) := aD.2 ⟨60, by kernel_rfl⟩
theorem aQ9 : Call tab s bS [(bM 6 x).v] H = some (.tup [.int .i64 0, .int .i64 0], H) := aD.2 ⟨60, by kernel_rfl⟩
theorem aQa : Call tab s bP [(bM 6 x).v, .int .i64 ((0 : Nat) : Int)] H = some (.sl (some 4) (aE 6 0).length (enL (aE 6 0)), H) := aD.2 ⟨60, by kernel_rfl⟩
theorem aT5 : Call tab s bK [(bM 6 x).v, .int .i64 ((0 : Nat) : Int), .sl none (aE 6 0).length (enL (aE 6 0))] H = some (.sl none (aN 6 0).length (enL (aN 6 0)), H) := aD.2 ⟨60, by kernel_rfl⟩
theorem aGr : Call tab s bJ [(bM 6 x).v, .int .i64 ((0 : Nat) : Int)] H = some (.sl (some 4) (aE 6 0).length (enL (aE 6 0)), H) := aD.2 ⟨60, by kernel_rfl⟩
theorem aQb : Call tab s bL [(bM 6 x).v, .int .i64 ((0 : Nat) : Int)] H = some (.int .i64 (aE 6 0).length, H) := aD.2 ⟨60, by kernel_rfl⟩
theorem aQc : Call tab s bP [(bM 6 x).v, .int .i64 ((1 : Nat) : Int)] H = some (.sl (some 4) (aE 6 1).length (enL (aE 6 1)), H) := aD.2 ⟨60, by kernel_rfl⟩
theorem aT6 : Call tab s bK [(bM 6 x).v, .int .i64 ((1 : Nat) : Int), .sl none (aE 6 1).length (enL (aE 6 1))] H = some (.sl none (aN 6 1).length (enL (aN 6 1)), H) := aD.2 ⟨60, by kernel_rfl⟩
theorem aGs : Call tab s bJ [(bM 6 x).v, .int .i64 ((1 : Nat) : Int)] H = some (.sl (some 4) (aE 6 1).length (enL (aE 6 1)), H) := aD.2 ⟨60, by kernel_rfl⟩
theorem aQd : Call tab s bL [(bM 6 x).v, .int .i64 ((1 : Nat) : Int)] H = some (.int .i64 (aE 6 1).length, H) := aD.2 ⟨60, by kernel_rfl⟩
theorem aQe : Call tab s bP [(bM 6 x).v, .int .i64 ((2 : Nat) : Int)] H = some (.sl (some 4) (aE 6 2).length (enL (aE 6 2)), H) := aD.2 ⟨60, by kernel_rfl⟩
theorem aT7 : Call tab s bK [(bM 6 x).v, .int .i64 ((2 : Nat) : Int), .sl none (aE 6 2).length (enL (aE 6 2))] H = some (.sl none (aN 6 2).length (enL (aN 6 2)), H) := aD.2 ⟨60, by kernel_rfl⟩
theorem aGt : Call tab s bJ [(bM 6 x).v, .int .i64 ((2 : Nat) : Int)] H = some (.sl (some 4) (aE 6 2).length (enL (aE 6 2)), H) := aD.2 ⟨60, by kernel_rfl⟩
theorem aQf : Call tab s bL [(bM 6 x).v, .int .i64 ((2 : Nat) : Int)] H = some (.int .i64 (aE 6 2).length, H) := aD.2 ⟨60, by kernel_rfl⟩
theorem aQg : Call tab s bP [(bM 6 x).v, .int .i64 ((3 : Nat) : Int)] H = some (.sl (some 4) (aE 6 3).length (enL (aE 6 3)), H) := aD.2 ⟨60, by kernel_rfl⟩
theorem aT8 : Call tab s bK [(bM 6 x).v, .int .i64 ((3 : Nat) : Int), .sl none (aE 6 3).length (enL (aE 6 3))] H = some (.sl none (aN 6 3).length (enL (aN 6 3)), H) := aD.2 ⟨60, by kernel_rfl⟩
theorem aGu : Call tab s bJ [(bM 6 x).v, .int .i64 ((3 : Nat) : Int)] H = some (.sl (some 4) (aE 6 3).length (enL (aE 6 3)), H) := aD.2 ⟨60, by kernel_rfl⟩
theorem aQh : Call tab s bL [(bM 6 x).v, .int .i64 ((3 : Nat) : Int)] H = some (.int .i64 (aE 6 3).length, H) := aD.2 ⟨60, by kernel_rfl⟩
end
end Go.Abs
namespace Go.Abs
open Go.Proofs.YtpcnjabfiahhhaaGreatDoor
attribute [local irreducible] enL R RR fP fB pX fK fQ pU apply fT gQ bW bZ eJ bR iL bG bD eC cR kD dO V.rb V.rbL
theorem aGb {x : Nums} (h : NumOK 4 x) : Net (bM 6 x) (aE 6) (aN 6) where
 n1 := by show 1 ≤ 4 ∧ 4 ≤ 4; decide
 chk := fun s H => bBl x
 rchk := fun s H => aQ9 x
 ends := fun s H p hp => by
  have hp2 : p < 4 := hp
  rcases (show p = 0 ∨ p = 1 ∨ p = 2 ∨ p = 3 by omega) with rfl | rfl | rfl | rfl
  ·exact aQa x
  ·exact aQc x
  ·exact aQe x
  ·exact aQg x
 lst := fun s H p hp => by
  have hp2 : p < 4 := hp
  rcases (show p = 0 ∨ p = 1 ∨ p = 2 ∨ p = 3 by omega) with rfl | rfl | rfl | rfl
  ·exact aT5 x
  ·exact aT6 x
  ·exact aT7 x
  ·exact aT8 x
 rprt := fun s H p hp => by
  have hp2 : p < 4 := hp
  rcases (show p = 0 ∨ p = 1 ∨ p = 2 ∨ p = 3 by omega) with rfl | rfl | rfl | rfl
  ·exact aGr x
  ·exact aGs x
  ·exact aGt x
  ·exact aGu x
 rcnt := fun s H p hp => by
  have hp2 : p < 4 := hp
  rcases (show p = 0 ∨ p = 1 ∨ p = 2 ∨ p = 3 by omega) with rfl | rfl | rfl | rfl
  ·exact aQb x
  ·exact aQd x
  ·exact aQf x
  ·exact aQh x
 room := fun p hp => by
  have hp2 : p < 4 := hp
  rcases (show p = 0 ∨ p = 1 ∨ p = 2 ∨ p = 3 by omega) with rfl | rfl | rfl | rfl
  all_goals exact of_decide_eq_true (by kernel_rfl)
 cy := h.cy
 dr := h.dr
 ld := rfl
 sl := rfl
 rt := rfl
 rm := rfl
 wi := h.wi
 lo := h.lo
 ag := h.ag
 li := h.li
 sp := h.sp
theorem aPc {x : Nums} (h : NumOK 4 x) {s : Option Nat} {H : aC} : Call tab s bF [(bM 6 x).v, .int .i64 ((0 : Nat) : Int)] H = some (.sl none (aN 6 0).length (enL (aN 6 0)), H) := by
 have h1 := fun s H => fH (s := s) (H := H) (aGb h) (p := ((0 : Nat) : Int))
 have h2 := fun s H => aGr (s := s) (H := H) x
 have hd : decide (0 ≤ ((0 : Nat) : Int) ∧ ((0 : Nat) : Int) < (bM 6 x).parts.length) = true := by
  show decide (0 ≤ ((0 : Nat) : Int) ∧ ((0 : Nat) : Int) < ((4 : Nat) : Int)) = true
  decide
 simp only [hd] at h1
 unfold Config.v at *
 ((first | refine aJ ?_ | skip); refine bX (cf := aM) rfl rfl rfl rfl ?_; unfold aM; dsimp only [aB, Nat.reduceAdd, Nat.zero_add])
 repeat' (first | refine aS ?_ | refine yc ?_ (ha := by first | exact h1 _ _ | assumption) | (show zn; refine aA ?_ (ha := by first | exact h1 _ _ | assumption)) | (show gA; first | refine aH (fun _ => ?_) fun _ => ?_ | refine gc_E (fun _ => ?_) fun _ => ?_ | refine gc_N (fun _ => ?_) fun _ => ?_ | refine aT ?_ | refine gc_B (fun _ => ?_) fun _ => ?_) | fail)
 refine dE ?_ (ha := h2 _ _)
 refine qP ?_
 refine jP ?_
 refine cF ?_
 exact dU 60 (by kernel_rfl) ⟨rfl⟩
theorem aPd {x : Nums} (h : NumOK 4 x) {s : Option Nat} {H : aC} : Call tab s bF [(bM 6 x).v, .int .i64 ((1 : Nat) : Int)] H = some (.sl none (aN 6 1).length (enL (aN 6 1)), H) := by
 have h1 := fun s H => fH (s := s) (H := H) (aGb h) (p := ((1 : Nat) : Int))
 have h2 := fun s H => aGs (s := s) (H := H) x
 have hd : decide (0 ≤ ((1 : Nat) : Int) ∧ ((1 : Nat) : Int) < (bM 6 x).parts.length) = true := by
  show decide (0 ≤ ((1 : Nat) : Int) ∧ ((1 : Nat) : Int) < ((4 : Nat) : Int)) = true
  decide
 simp only [hd] at h1
 unfold Config.v at *
 ((first | refine aJ ?_ | skip); refine bX (cf := aM) rfl rfl rfl rfl ?_; unfold aM; dsimp only [aB, Nat.reduceAdd, Nat.zero_add])
 repeat' (first | refine aS ?_ | refine yc ?_ (ha := by first | exact h1 _ _ | assumption) | (show zn; refine aA ?_ (ha := by first | exact h1 _ _ | assumption)) | (show gA; first | refine aH (fun _ => ?_) fun _ => ?_ | refine gc_E (fun _ => ?_) fun _ => ?_ | refine gc_N (fun _ => ?_) fun _ => ?_ | refine aT ?_ | refine gc_B (fun _ => ?_) fun _ => ?_) | fail)
 refine dE ?_ (ha := h2 _ _)
 refine qP ?_
 refine jP ?_
 refine cF ?_
 exact dU 60 (by kernel_rfl) ⟨rfl⟩
theorem aPe {x : Nums} (h : NumOK 4 x) {s : Option Nat} {H : aC} : Call tab s bF [(bM 6 x).v, .int .i64 ((2 : Nat) : Int)] H = some (.sl none (aN 6 2).length (enL (aN 6 2)), H) := by
 have h1 := fun s H => fH (s := s) (H := H) (aGb h) (p := ((2 : Nat) : Int))
 have h2 := fun s H => aGt (s := s) (H := H) x
 have hd : decide (0 ≤ ((2 : Nat) : Int) ∧ ((2 : Nat) : Int) < (bM 6 x).parts.length) = true := by
  show decide (0 ≤ ((2 : Nat) : Int) ∧ ((2 : Nat) : Int) < ((4 : Nat) : Int)) = true
  decide
 simp only [hd] at h1
 unfold Config.v at *
 ((first | refine aJ ?_ | skip); refine bX (cf := aM) rfl rfl rfl rfl ?_; unfold aM; dsimp only [aB, Nat.reduceAdd, Nat.zero_add])
 repeat' (first | refine aS ?_ | refine yc ?_ (ha := by first | exact h1 _ _ | assumption) | (show zn; refine aA ?_ (ha := by first | exact h1 _ _ | assumption)) | (show gA; first | refine aH (fun _ => ?_) fun _ => ?_ | refine gc_E (fun _ => ?_) fun _ => ?_ | refine gc_N (fun _ => ?_) fun _ => ?_ | refine aT ?_ | refine gc_B (fun _ => ?_) fun _ => ?_) | fail)
 refine dE ?_ (ha := h2 _ _)
 refine qP ?_
 refine jP ?_
 refine cF ?_
 exact dU 60 (by kernel_rfl) ⟨rfl⟩
theorem aPf {x : Nums} (h : NumOK 4 x) {s : Option Nat} {H : aC} : Call tab s bF [(bM 6 x).v, .int .i64 ((3 : Nat) : Int)] H = some (.sl none (aN 6 3).length (enL (aN 6 3)), H) := by
 have h1 := fun s H => fH (s := s) (H := H) (aGb h) (p := ((3 : Nat) : Int))
 have h2 := fun s H => aGu (s := s) (H := H) x
 have hd : decide (0 ≤ ((3 : Nat) : Int) ∧ ((3 : Nat) : Int) < (bM 6 x).parts.length) = true := by
  show decide (0 ≤ ((3 : Nat) : Int) ∧ ((3 : Nat) : Int) < ((4 : Nat) : Int)) = true
  decide
 simp only [hd] at h1
 unfold Config.v at *
 ((first | refine aJ ?_ | skip); refine bX (cf := aM) rfl rfl rfl rfl ?_; unfold aM; dsimp only [aB, Nat.reduceAdd, Nat.zero_add])
 repeat' (first | refine aS ?_ | refine yc ?_ (ha := by first | exact h1 _ _ | assumption) | (show zn; refine aA ?_ (ha := by first | exact h1 _ _ | assumption)) | (show gA; first | refine aH (fun _ => ?_) fun _ => ?_ | refine gc_E (fun _ => ?_) fun _ => ?_ | refine gc_N (fun _ => ?_) fun _ => ?_ | refine aT ?_ | refine gc_B (fun _ => ?_) fun _ => ?_) | fail)
 refine dE ?_ (ha := h2 _ _)
 refine qP ?_
 refine jP ?_
 refine cF ?_
 exact dU 60 (by kernel_rfl) ⟨rfl⟩
theorem aWx {x : Nums} (h : NumOK 4 x) : NetR (bM 6 x) (aE 6) (aN 6) := ⟨aGb h, fun s H p hp => by
 have hp2 : p < 4 := hp
 rcases (show p = 0 ∨ p = 1 ∨ p = 2 ∨ p = 3 by omega) with rfl | rfl | rfl | rfl
 ·exact aPc h
 ·exact aPd h
 ·exact aPe h
 ·exact aPf h⟩
end Go.Abs
