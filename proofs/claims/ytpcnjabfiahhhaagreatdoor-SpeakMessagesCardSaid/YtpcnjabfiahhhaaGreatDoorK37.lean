/- A part of the proof of RowSpeakOffers, RowSpeakMessages: lemmas alone, without conditions. -/
import Derived.Test.YtpcnjabfiahhhaaGreatDoorK33
set_option linter.all false
namespace Go.Abs
open Go.Proofs.YtpcnjabfiahhhaaGreatDoor
section
variable {s : Option Nat} {H : aC} (x : Nums)
theorem bB6 : Call tab s eR [(bM 0 x).v] H = some (.tup [.int .i64 0, .int .i64 0], H) := aD.2 ⟨60, by kernel_rfl⟩
theorem aOm : Call tab s bS [(bM 0 x).v] H = some (.tup [.int .i64 0, .int .i64 0], H) := aD.2 ⟨60, by kernel_rfl⟩
theorem aOn : Call tab s bP [(bM 0 x).v, .int .i64 ((0 : Nat) : Int)] H = some (.sl (some 4) (aE 0 0).length (enL (aE 0 0)), H) := aD.2 ⟨60, by kernel_rfl⟩
theorem aSh : Call tab s bK [(bM 0 x).v, .int .i64 ((0 : Nat) : Int), .sl none (aE 0 0).length (enL (aE 0 0))] H = some (.sl none (aN 0 0).length (enL (aN 0 0)), H) := aD.2 ⟨60, by kernel_rfl⟩
theorem aFv : Call tab s bJ [(bM 0 x).v, .int .i64 ((0 : Nat) : Int)] H = some (.sl (some 4) (aE 0 0).length (enL (aE 0 0)), H) := aD.2 ⟨60, by kernel_rfl⟩
theorem aOo : Call tab s bL [(bM 0 x).v, .int .i64 ((0 : Nat) : Int)] H = some (.int .i64 (aE 0 0).length, H) := aD.2 ⟨60, by kernel_rfl⟩
theorem bB7 : Call tab s eR [(bM 1 x).v] H = some (.tup [.int .i64 0, .int .i64 0], H) := aD.2 ⟨60, by kernel_rfl⟩
theorem aOp : Call tab s bS [(bM 1 x).v] H = some (.tup [.int .i64 0, .int .i64 0], H) := aD.2 ⟨60, by kernel_rfl⟩
theorem aOq : Call tab s bP [(bM 1 x).v, .int .i64 ((0 : Nat) : Int)] H = some (.sl (some 4) (aE 1 0).length (enL (aE 1 0)), H) := aD.2 ⟨60, by kernel_rfl⟩
theorem aSi : Call tab s bK [(bM 1 x).v, .int .i64 ((0 : Nat) : Int), .sl none (aE 1 0).length (enL (aE 1 0))] H = some (.sl none (aN 1 0).length (enL (aN 1 0)), H) := aD.2 ⟨60, by kernel_rfl⟩
theorem aFw : Call tab s bJ [(bM 1 x).v, .int .i64 ((0 : Nat) : Int)] H = some (.sl (some 4) (aE 1 0).length (enL (aE 1 0)), H) := aD.2 ⟨60, by kernel_rfl⟩
theorem aOr : Call tab s bL [(bM 1 x).v, .int .i64 ((0 : Nat) : Int)] H = some (.int .i64 (aE 1 0).length, H) := aD.2 ⟨60, by kernel_rfl⟩
theorem aOs : Call tab s bP [(bM 1 x).v, .int .i64 ((1 : Nat) : Int)] H = some (.sl (some 4) (aE 1 1).length (enL (aE 1 1)), H) := aD.2 ⟨60, by kernel_rfl⟩
theorem aSj : Call tab s bK [(bM 1 x).v, .int .i64 ((1 : Nat) : Int), .sl none (aE 1 1).length (enL (aE 1 1))] H = some (.sl none (aN 1 1).length (enL (aN 1 1)), H) := aD.2 ⟨60, by kernel_rfl⟩
theorem aFx : Call tab s bJ [(bM 1 x).v, .int .i64 ((1 : Nat) : Int)] H = some (.sl (some 4) (aE 1 1).length (enL (aE 1 1)), H) := aD.2 ⟨60, by kernel_rfl⟩
theorem aOt : Call tab s bL [(bM 1 x).v, .int .i64 ((1 : Nat) : Int)] H = some (.int .i64 (aE 1 1).length, H) := aD.2 ⟨60, by kernel_rfl⟩
theorem bB8 : Call tab s eR [(bM 2 x).v] H = some (.tup [.int .i64 0, .int .i64 0], H) := aD.2 ⟨60, by kernel_rfl⟩
theorem aOu : Call tab s bS [(bM 2 x).v] H = some (.tup [.int .i64 0, .int .i64 0], H) := aD.2 ⟨60, by kernel_rfl⟩
theorem aOv : Call tab s bP [(bM 2 x).v, .int .i64 ((0 : Nat) : Int)] H = some (.sl (some 4) (aE 2 0).length (enL (aE 2 0)), H) := aD.2 ⟨60, by kernel_rfl⟩
theorem aSk : Call tab s bK [(bM 2 x).v, .int .i64 ((0 : Nat) : Int), .sl none (aE 2 0).length (enL (aE 2 0))] H = some (.sl none (aN 2 0).length (enL (aN 2 0)), H) := aD.2 ⟨60, by kernel_rfl⟩
theorem aFy : Call tab s bJ [(bM 2 x).v, .int .i64 ((0 : Nat) : Int)] H = some (.sl (some 4) (aE 2 0).length (enL (aE 2 0)), H) := aD.2 ⟨60, by kernel_rfl⟩
theorem aOw : Call tab s bL [(bM 2 x).v, .int .i64 ((0 : Nat) : Int)] H = some (.int .i64 (aE 2 0).length, H) := aD.2 ⟨60, by kernel_rfl⟩
theorem aOx : Call tab s bP [(bM 2 x).v, .int .i64 ((1 : Nat) : Int)] H = some (.sl (some 4) (aE 2 1).length (enL (aE 2 1)), H) := aD.2 ⟨60, by kernel_rfl⟩
theorem aSl : Call tab s bK [(bM 2 x).v, .int .i64 ((1 : Nat) : Int), .sl none (aE 2 1).length (enL (aE 2 1))] H = some (.sl none (aN 2 1).length (enL (aN 2 1)), H) := aD.2 ⟨60, by kernel_rfl⟩
theorem aFz : Call tab s bJ [(bM 2 x).v, .int .i64 ((1 : Nat) : Int)] H = some (.sl (some 4) (aE 2 1).length (enL (aE 2 1)), H) := aD.2 ⟨60, by kernel_rfl⟩
theorem aOy : Call tab s bL [(bM 2 x).v, .int .i64 ((1 : Nat) : Int)] H = some (.int .i64 (aE 2 1).length, H) := aD.2 ⟨60, by kernel_rfl⟩
theorem aOz : Call tab s bP [(bM 2 x).v, .int .i64 ((2 : Nat) : Int)] H = some (.sl (some 4) (aE 2 2).length (enL (aE 2 2)), H) := aD.2 ⟨60, by kernel_rfl⟩
theorem aSm : Call tab s bK [(bM 2 x).v, .int .i64 ((2 : Nat) : Int), .sl none (aE 2 2).length (enL (aE 2 2))] H = some (.sl none (aN 2 2).length (enL (aN 2 2)), H) := aD.2 ⟨60, by kernel_rfl⟩
theorem aG0 : Call tab s bJ [(bM 2 x).v, .int .i64 ((2 : Nat) : Int)] H = some (.sl (some 4) (aE 2 2).length (enL (aE 2 2)), H) := aD.2 ⟨60, by kernel_rfl⟩
theorem aP0 : Call tab s bL [(bM 2 x).v, .int .i64 ((2 : Nat) : Int)] H = some (.int .i64 (aE 2 2).length, H) := aD.2 ⟨60, by kernel_rfl⟩
theorem bB9 : Call tab s eR [(bM 3 x).v] H = some (.tup [.int .i64 0, .int .i64 0], H) := aD.2 ⟨60, by kernel_rfl⟩
theorem aP1 : Call tab s bS [(bM 3 x).v] H = some (.tup [.int .i64 0, .int .i64 0], H) := aD.2 ⟨60, by kernel_rfl⟩
theorem aP2 : Call tab s bP [(bM 3 x).v, .int .i64 ((0 : Nat) : Int)] H = some (.sl (some 4) (aE 3 0).length (enL (aE 3 0)), H) := aD.2 ⟨60, by kernel_rfl⟩
theorem aSn : Call tab s bK [(bM 3 x).v, .int .i64 ((0 : Nat) : Int), .sl none (aE 3 0).length (enL (aE 3 0))] H = some (.sl none (aN 3 0).length (enL (aN 3 0)), H) := aD.2 ⟨60, by kernel_rfl⟩
theorem aG1 : Call tab s bJ [(bM 3 x).v, .int .i64 ((0 : Nat) : Int)] H = some (.sl (some 4) (aE 3 0).length (enL (aE 3 0)), H) := aD.2 ⟨60, by kernel_rfl⟩
theorem aP3 : Call tab s bL [(bM 3 x).v, .int .i64 ((0 : Nat) : Int)] H = some (.int .i64 (aE 3 0).length, H) := aD.2 ⟨60, by kernel_rfl⟩
theorem aP4 : Call tab s bP [(bM 3 x).v, .int .i64 ((1 : Nat) : Int)] H = some (.sl (some 4) (aE 3 1).length (enL (aE 3 1)), H) := aD.2 ⟨60, by kernel_rfl⟩
theorem aSo : Call tab s bK [(bM 3 x).v, .int .i64 ((1 : Nat) : Int), .sl none (aE 3 1).length (enL (aE 3 1))] H = some (.sl none (aN 3 1).length (enL (aN 3 1)), H) := aD.2 ⟨60, by kernel_rfl⟩
theorem aG2 : Call tab s bJ [(bM 3 x).v, .int .i64 ((1 : Nat) : Int)] H = some (.sl (some 4) (aE 3 1).length (enL (aE 3 1)), H) := aD.2 ⟨60, by kernel_rfl⟩
theorem aP5 : Call tab s bL [(bM 3 x).v, .int .i64 ((1 : Nat) : Int)] H = some (.int .i64 (aE 3 1).length, H) := aD.2 ⟨60, by kernel_rfl⟩
theorem aP6 : Call tab s bP [(bM 3 x).v, .int .i64 ((2 : Nat) : Int)] H = some (.sl (some 4) (aE 3 2).length (enL (aE 3 2)), H) := aD.2 ⟨60, by kernel_rfl⟩
theorem aSp : Call tab s bK [(bM 3 x).v, .int .i64 ((2 : Nat) : Int), .sl none (aE 3 2).length (enL (aE 3 2))] H = some (.sl none (aN 3 2).length (enL (aN 3 2)), H) := aD.2 ⟨60, by kernel_rfl⟩
theorem aG3 : Call tab s bJ [(bM 3 x).v, .int .i64 ((2 : Nat) : Int)] H = some (.sl (some 4) (aE 3 2).length (enL (aE 3 2)), H) := aD.2 ⟨60, by kernel_rfl⟩
theorem aP7 : Call tab s bL [(bM 3 x).v, .int .i64 ((2 : Nat) : Int)] H = some (.int .i64 (aE 3 2).length, H) := aD.2 ⟨60, by kernel_rfl⟩
end
end Go.Abs
namespace Go.Abs
open Go.Proofs.YtpcnjabfiahhhaaGreatDoor
attribute [local irreducible] enL R RR fP fB pX fK fQ pU apply fT gQ bW bZ eJ bR iL bG bD eC cR kD dO V.rb V.rbL
theorem aTs {x : Nums} (h : NumOK 1 x) : Net (bM 0 x) (aE 0) (aN 0) where
 n1 := by show 1 ≤ 1 ∧ 1 ≤ 4; decide
 chk := fun s H => bB6 x
 rchk := fun s H => aOm x
 ends := fun s H p hp => by
  have hp2 : p < 1 := hp
  have hp3 : p = 0 := by omega
  subst hp3
  exact aOn x
 lst := fun s H p hp => by
  have hp2 : p < 1 := hp
  have hp3 : p = 0 := by omega
  subst hp3
  exact aSh x
 rprt := fun s H p hp => by
  have hp2 : p < 1 := hp
  have hp3 : p = 0 := by omega
  subst hp3
  exact aFv x
 rcnt := fun s H p hp => by
  have hp2 : p < 1 := hp
  have hp3 : p = 0 := by omega
  subst hp3
  exact aOo x
 room := fun p hp => by
  have hp2 : p < 1 := hp
  rcases (show p = 0 by omega) with rfl
  all_goals exact of_decide_eq_true (by kernel_rfl)
 cy := h.cy
 dr := h.dr
 ld := rfl
 sl := rfl
 rt := rfl
 rm := rfl
 wi := h.wi
 lo := h.lo
 ag := h.ag
 li := h.li
 sp := h.sp
theorem aO9 {x : Nums} (h : NumOK 1 x) {s : Option Nat} {H : aC} : Call tab s bF [(bM 0 x).v, .int .i64 ((0 : Nat) : Int)] H = some (.sl none (aN 0 0).length (enL (aN 0 0)), H) := by
 have h1 := fun s H => fH (s := s) (H := H) (aTs h) (p := ((0 : Nat) : Int))
 have h2 := fun s H => aFv (s := s) (H := H) x
 have hd : decide (0 ≤ ((0 : Nat) : Int) ∧ ((0 : Nat) : Int) < (bM 0 x).parts.length) = true := by
  show decide (0 ≤ ((0 : Nat) : Int) ∧ ((0 : Nat) : Int) < ((1 : Nat) : Int)) = true
  decide
 simp only [hd] at h1
 unfold Config.v at *
 ((first | refine aJ ?_ | skip); refine bX (cf := aM) rfl rfl rfl rfl ?_; unfold aM; dsimp only [aB, Nat.reduceAdd, Nat.zero_add])
 repeat' (first | refine aS ?_ | refine yc ?_ (ha := by first | exact h1 _ _ | assumption) | (show zn; refine aA ?_ (ha := by first | exact h1 _ _ | assumption)) | (show gA; first | refine aH (fun _ => ?_) fun _ => ?_ | refine gc_E (fun _ => ?_) fun _ => ?_ | refine gc_N (fun _ => ?_) fun _ => ?_ | refine aT ?_ | refine gc_B (fun _ => ?_) fun _ => ?_) | fail)
 refine dE ?_ (ha := h2 _ _)
 refine qP ?_
 refine jP ?_
 refine cF ?_
 exact dU 60 (by kernel_rfl) ⟨rfl⟩
theorem aWd {x : Nums} (h : NumOK 1 x) : NetR (bM 0 x) (aE 0) (aN 0) := ⟨aTs h, fun s H p hp => by
 have hp2 : p < 1 := hp
 rcases (show p = 0 by omega) with rfl
 ·exact aO9 h⟩
theorem aOa {x : Nums} (h : NumOK 2 x) : Net (bM 1 x) (aE 1) (aN 1) where
 n1 := by show 1 ≤ 2 ∧ 2 ≤ 4; decide
 chk := fun s H => bB7 x
 rchk := fun s H => aOp x
 ends := fun s H p hp => by
  have hp2 : p < 2 := hp
  rcases (show p = 0 ∨ p = 1 by omega) with rfl | rfl
  ·exact aOq x
  ·exact aOs x
 lst := fun s H p hp => by
  have hp2 : p < 2 := hp
  rcases (show p = 0 ∨ p = 1 by omega) with rfl | rfl
  ·exact aSi x
  ·exact aSj x
 rprt := fun s H p hp => by
  have hp2 : p < 2 := hp
  rcases (show p = 0 ∨ p = 1 by omega) with rfl | rfl
  ·exact aFw x
  ·exact aFx x
 rcnt := fun s H p hp => by
  have hp2 : p < 2 := hp
  rcases (show p = 0 ∨ p = 1 by omega) with rfl | rfl
  ·exact aOr x
  ·exact aOt x
 room := fun p hp => by
  have hp2 : p < 2 := hp
  rcases (show p = 0 ∨ p = 1 by omega) with rfl | rfl
  all_goals exact of_decide_eq_true (by kernel_rfl)
 cy := h.cy
 dr := h.dr
 ld := rfl
 sl := rfl
 rt := rfl
 rm := rfl
 wi := h.wi
 lo := h.lo
 ag := h.ag
 li := h.li
 sp := h.sp
theorem aOb {x : Nums} (h : NumOK 2 x) {s : Option Nat} {H : aC} : Call tab s bF [(bM 1 x).v, .int .i64 ((0 : Nat) : Int)] H = some (.sl none (aN 1 0).length (enL (aN 1 0)), H) := by
 have h1 := fun s H => fH (s := s) (H := H) (aOa h) (p := ((0 : Nat) : Int))
 have h2 := fun s H => aFw (s := s) (H := H) x
 have hd : decide (0 ≤ ((0 : Nat) : Int) ∧ ((0 : Nat) : Int) < (bM 1 x).parts.length) = true := by
  show decide (0 ≤ ((0 : Nat) : Int) ∧ ((0 : Nat) : Int) < ((2 : Nat) : Int)) = true
  decide
 simp only [hd] at h1
 unfold Config.v at *
 ((first | refine aJ ?_ | skip); refine bX (cf := aM) rfl rfl rfl rfl ?_; unfold aM; dsimp only [aB, Nat.reduceAdd, Nat.zero_add])
 repeat' (first | refine aS ?_ | refine yc ?_ (ha := by first | exact h1 _ _ | assumption) | (show zn; refine aA ?_ (ha := by first | exact h1 _ _ | assumption)) | (show gA; first | refine aH (fun _ => ?_) fun _ => ?_ | refine gc_E (fun _ => ?_) fun _ => ?_ | refine gc_N (fun _ => ?_) fun _ => ?_ | refine aT ?_ | refine gc_B (fun _ => ?_) fun _ => ?_) | fail)
 refine dE ?_ (ha := h2 _ _)
 refine qP ?_
 refine jP ?_
 refine cF ?_
 exact dU 60 (by kernel_rfl) ⟨rfl⟩
theorem aOc {x : Nums} (h : NumOK 2 x) {s : Option Nat} {H : aC} : Call tab s bF [(bM 1 x).v, .int .i64 ((1 : Nat) : Int)] H = some (.sl none (aN 1 1).length (enL (aN 1 1)), H) := by
 have h1 := fun s H => fH (s := s) (H := H) (aOa h) (p := ((1 : Nat) : Int))
 have h2 := fun s H => aFx (s := s) (H := H) x
 have hd : decide (0 ≤ ((1 : Nat) : Int) ∧ ((1 : Nat) : Int) < (bM 1 x).parts.length) = true := by
  show decide (0 ≤ ((1 : Nat) : Int) ∧ ((1 : Nat) : Int) < ((2 : Nat) : Int)) = true
  decide
 simp only [hd] at h1
 unfold Config.v at *
 ((first | refine aJ ?_ | skip); refine bX (cf := aM) rfl rfl rfl rfl ?_; unfold aM; dsimp only [aB, Nat.reduceAdd, Nat.zero_add])
 repeat' (first | refine aS ?_ | refine yc ?_ (ha := by first | exact h1 _ _ | assumption) | (show zn; refine aA ?_ (ha := by first | exact h1 _ _ | assumption)) | (show gA; first | refine aH (fun _ => ?_) fun _ => ?_ | refine gc_E (fun _ => ?_) fun _ => ?_ | refine gc_N (fun _ => ?_) fun _ => ?_ | refine aT ?_ | refine gc_B (fun _ => ?_) fun _ => ?_) | fail)
 refine dE ?_ (ha := h2 _ _)
 refine qP ?_
 refine jP ?_
 refine cF ?_
 exact dU 60 (by kernel_rfl) ⟨rfl⟩
theorem aWe {x : Nums} (h : NumOK 2 x) : NetR (bM 1 x) (aE 1) (aN 1) := ⟨aOa h, fun s H p hp => by
 have hp2 : p < 2 := hp
 rcases (show p = 0 ∨ p = 1 by omega) with rfl | rfl
 ·exact aOb h
 ·exact aOc h⟩
theorem aJ9 {x : Nums} (h : NumOK 3 x) : Net (bM 2 x) (aE 2) (aN 2) where
 n1 := by show 1 ≤ 3 ∧ 3 ≤ 4; decide
 chk := fun s H => bB8 x
 rchk := fun s H => aOu x
 ends := fun s H p hp => by
  have hp2 : p < 3 := hp
  rcases (show p = 0 ∨ p = 1 ∨ p = 2 by omega) with rfl | rfl | rfl
  ·exact aOv x
  ·exact aOx x
  ·exact aOz x
 lst := fun s H p hp => by
  have hp2 : p < 3 := hp
  rcases (show p = 0 ∨ p = 1 ∨ p = 2 by omega) with rfl | rfl | rfl
  ·exact aSk x
  ·exact aSl x
  ·exact aSm x
 rprt := fun s H p hp => by
  have hp2 : p < 3 := hp
  rcases (show p = 0 ∨ p = 1 ∨ p = 2 by omega) with rfl | rfl | rfl
  ·exact aFy x
  ·exact aFz x
  ·exact aG0 x
 rcnt := fun s H p hp => by
  have hp2 : p < 3 := hp
  rcases (show p = 0 ∨ p = 1 ∨ p = 2 by omega) with rfl | rfl | rfl
  ·exact aOw x
  ·exact aOy x
  ·exact aP0 x
 room := fun p hp => by
  have hp2 : p < 3 := hp
  rcases (show p = 0 ∨ p = 1 ∨ p = 2 by omega) with rfl | rfl | rfl
  all_goals exact of_decide_eq_true (by kernel_rfl)
 cy := h.cy
 dr := h.dr
 ld := rfl
 sl := rfl
 rt := rfl
 rm := rfl
 wi := h.wi
 lo := h.lo
 ag := h.ag
 li := h.li
 sp := h.sp
theorem aOd {x : Nums} (h : NumOK 3 x) {s : Option Nat} {H : aC} : Call tab s bF [(bM 2 x).v, .int .i64 ((0 : Nat) : Int)] H = some (.sl none (aN 2 0).length (enL (aN 2 0)), H) := by
 have h1 := fun s H => fH (s := s) (H := H) (aJ9 h) (p := ((0 : Nat) : Int))
 have h2 := fun s H => aFy (s := s) (H := H) x
 have hd : decide (0 ≤ ((0 : Nat) : Int) ∧ ((0 : Nat) : Int) < (bM 2 x).parts.length) = true := by
  show decide (0 ≤ ((0 : Nat) : Int) ∧ ((0 : Nat) : Int) < ((3 : Nat) : Int)) = true
  decide
 simp only [hd] at h1
 unfold Config.v at *
 ((first | refine aJ ?_ | skip); refine bX (cf := aM) rfl rfl rfl rfl ?_; unfold aM; dsimp only [aB, Nat.reduceAdd, Nat.zero_add])
 repeat' (first | refine aS ?_ | refine yc ?_ (ha := by first | exact h1 _ _ | assumption) | (show zn; refine aA ?_ (ha := by first | exact h1 _ _ | assumption)) | (show gA; first | refine aH (fun _ => ?_) fun _ => ?_ | refine gc_E (fun _ => ?_) fun _ => ?_ | refine gc_N (fun _ => ?_) fun _ => ?_ | refine aT ?_ | refine gc_B (fun _ => ?_) fun _ => ?_) | fail)
 refine dE ?_ (ha := h2 _ _)
 refine qP ?_
 refine jP ?_
 refine cF ?_
 exact dU 60 (by kernel_rfl) ⟨rfl⟩
theorem aOe {x : Nums} (h : NumOK 3 x) {s : Option Nat} {H : aC} : Call tab s bF [(bM 2 x).v, .int .i64 ((1 : Nat) : Int)] H = some (.sl none (aN 2 1).length (enL (aN 2 1)), H) := by
 have h1 := fun s H => fH (s := s) (H := H) (aJ9 h) (p := ((1 : Nat) : Int))
 have h2 := fun s H => aFz (s := s) (H := H) x
 have hd : decide (0 ≤ ((1 : Nat) : Int) ∧ ((1 : Nat) : Int) < (bM 2 x).parts.length) = true := by
  show decide (0 ≤ ((1 : Nat) : Int) ∧ ((1 : Nat) : Int) < ((3 : Nat) : Int)) = true
  decide
 simp only [hd] at h1
 unfold Config.v at *
 ((first | refine aJ ?_ | skip); refine bX (cf := aM) rfl rfl rfl rfl ?_; unfold aM; dsimp only [aB, Nat.reduceAdd, Nat.zero_add])
 repeat' (first | refine aS ?_ | refine yc ?_ (ha := by first | exact h1 _ _ | assumption) | (show zn; refine aA ?_ (ha := by first | exact h1 _ _ | assumption)) | (show gA; first | refine aH (fun _ => ?_) fun _ => ?_ | refine gc_E (fun _ => ?_) fun _ => ?_ | refine gc_N (fun _ => ?_) fun _ => ?_ | refine aT ?_ | refine gc_B (fun _ => ?_) fun _ => ?_) | fail)
 refine dE ?_ (ha := h2 _ _)
 refine qP ?_
 refine jP ?_
 refine cF ?_
 exact dU 60 (by kernel_rfl) ⟨rfl⟩
theorem aOf {x : Nums} (h : NumOK 3 x) {s : Option Nat} {H : aC} : Call tab s bF [(bM 2 x).v, .int .i64 ((2 : Nat) : Int)] H = some (.sl none (aN 2 2).length (enL (aN 2 2)), H) := by
 have h1 := fun s H => fH (s := s) (H := H) (aJ9 h) (p := ((2 : Nat) : Int))
 have h2 := fun s H => aG0 (s := s) (H := H) x
 have hd : decide (0 ≤ ((2 : Nat) : Int) ∧ ((2 : Nat) : Int) < (bM 2 x).parts.length) = true := by
  show decide (0 ≤ ((2 : Nat) : Int) ∧ ((2 : Nat) : Int) < ((3 : Nat) : Int)) = true
  decide
 simp only [hd] at h1
 unfold Config.v at *
 ((first | refine aJ ?_ | skip); refine bX (cf := aM) rfl rfl rfl rfl ?_; unfold aM; dsimp only [aB, Nat.reduceAdd, Nat.zero_add])
 repeat' (first | refine aS ?_ | refine yc ?_ (ha := by first | exact h1 _ _ | assumption) | (show zn; refine aA ?_ (ha := by first | exact h1 _ _ | assumption)) | (show gA; first | refine aH (fun _ => ?_) fun _ => ?_ | refine gc_E (fun _ => ?_) fun _ => ?_ | refine gc_N (fun _ => ?_) fun _ => ?_ | refine aT ?_ | refine gc_B (fun _ => ?_) fun _ => ?_) | fail)
 refine dE ?_ (ha := h2 _ _)
 refine qP ?_
 refine jP ?_
 refine cF ?_
 exact dU 60 (by kernel_rfl) ⟨rfl⟩
theorem aWf {x : Nums} (h : NumOK 3 x) : NetR (bM 2 x) (aE 2) (aN 2) := ⟨aJ9 h, fun s H p hp => by
 have hp2 : p < 3 := hp
 rcases (show p = 0 ∨ p = 1 ∨ p = 2 by omega) with rfl | rfl | rfl
 ·exact aOd h
 ·exact aOe h
 ·exact aOf h⟩
theorem aJa {x : Nums} (h : NumOK 3 x) : Net (bM 3 x) (aE 3) (aN 3) where
 n1 := by show 1 ≤ 3 ∧ 3 ≤ 4; decide
 chk := fun s H => bB9 x
 rchk := fun s H => aP1 x
 ends := fun s H p hp => by
  have hp2 : p < 3 := hp
  rcases (show p = 0 ∨ p = 1 ∨ p = 2 by omega) with rfl | rfl | rfl
  ·exact aP2 x
  ·exact aP4 x
  ·exact aP6 x
 lst := fun s H p hp => by
  have hp2 : p < 3 := hp
  rcases (show p = 0 ∨ p = 1 ∨ p = 2 by omega) with rfl | rfl | rfl
  ·exact aSn x
  ·exact aSo x
  ·exact aSp x
 rprt := fun s H p hp => by
  have hp2 : p < 3 := hp
  rcases (show p = 0 ∨ p = 1 ∨ p = 2 by omega) with rfl | rfl | rfl
  ·exact aG1 x
  ·exact aG2 x
  ·exact aG3 x
 rcnt := fun s H p hp => by
  have hp2 : p < 3 := hp
  rcases (show p = 0 ∨ p = 1 ∨ p = 2 by omega) with rfl | rfl | rfl
  ·exact aP3 x
  ·exact aP5 x
  ·exact aP7 x
 room := fun p hp => by
  have hp2 : p < 3 := hp
  rcases (show p = 0 ∨ p = 1 ∨ p = 2 by omega) with rfl | rfl | rfl
  all_goals exact of_decide_eq_true (by kernel_rfl)
 cy := h.cy
 dr := h.dr
 ld := rfl
 sl := rfl
 rt := rfl
 rm := rfl
 wi := h.wi
 lo := h.lo
 ag := h.ag
 li := h.li
 sp := h.sp
theorem aOg {x : Nums} (h : NumOK 3 x) {s : Option Nat} {H : aC} : Call tab s bF [(bM 3 x).v, .int .i64 ((0 : Nat) : Int)] H = some (.sl none (aN 3 0).length (enL (aN 3 0)), H) := by
 have h1 := fun s H => fH (s := s) (H := H) (aJa h) (p := ((0 : Nat) : Int))
 have h2 := fun s H => aG1 (s := s) (H := H) x
 have hd : decide (0 ≤ ((0 : Nat) : Int) ∧ ((0 : Nat) : Int) < (bM 3 x).parts.length) = true := by
  show decide (0 ≤ ((0 : Nat) : Int) ∧ ((0 : Nat) : Int) < ((3 : Nat) : Int)) = true
  decide
 simp only [hd] at h1
 unfold Config.v at *
 ((first | refine aJ ?_ | skip); refine bX (cf := aM) rfl rfl rfl rfl ?_; unfold aM; dsimp only [aB, Nat.reduceAdd, Nat.zero_add])
 repeat' (first | refine aS ?_ | refine yc ?_ (ha := by first | exact h1 _ _ | assumption) | (show zn; refine aA ?_ (ha := by first | exact h1 _ _ | assumption)) | (show gA; first | refine aH (fun _ => ?_) fun _ => ?_ | refine gc_E (fun _ => ?_) fun _ => ?_ | refine gc_N (fun _ => ?_) fun _ => ?_ | refine aT ?_ | refine gc_B (fun _ => ?_) fun _ => ?_) | fail)
 refine dE ?_ (ha := h2 _ _)
 refine qP ?_
 refine jP ?_
 refine cF ?_
 exact dU 60 (by kernel_rfl) ⟨rfl⟩
theorem aOh {x : Nums} (h : NumOK 3 x) {s : Option Nat} {H : aC} : Call tab s bF [(bM 3 x).v, .int .i64 ((1 : Nat) : Int)] H = some (.sl none (aN 3 1).length (enL (aN 3 1)), H) := by
 have h1 := fun s H => fH (s := s) (H := H) (aJa h) (p := ((1 : Nat) : Int))
 have h2 := fun s H => aG2 (s := s) (H := H) x
 have hd : decide (0 ≤ ((1 : Nat) : Int) ∧ ((1 : Nat) : Int) < (bM 3 x).parts.length) = true := by
  show decide (0 ≤ ((1 : Nat) : Int) ∧ ((1 : Nat) : Int) < ((3 : Nat) : Int)) = true
  decide
 simp only [hd] at h1
 unfold Config.v at *
 ((first | refine aJ ?_ | skip); refine bX (cf := aM) rfl rfl rfl rfl ?_; unfold aM; dsimp only [aB, Nat.reduceAdd, Nat.zero_add])
 repeat' (first | refine aS ?_ | refine yc ?_ (ha := by first | exact h1 _ _ | assumption) | (show zn; refine aA ?_ (ha := by first | exact h1 _ _ | assumption)) | (show gA; first | refine aH (fun _ => ?_) fun _ => ?_ | refine gc_E (fun _ => ?_) fun _ => ?_ | refine gc_N (fun _ => ?_) fun _ => ?_ | refine aT ?_ | refine gc_B (fun _ => ?_) fun _ => ?_) | fail)
 refine dE ?_ (ha := h2 _ _)
 refine qP ?_
 refine jP ?_
 refine cF ?_
 exact dU 60 (by kernel_rfl) ⟨rfl⟩
theorem aOi {x : Nums} (h : NumOK 3 x) {s : Option Nat} {H : aC} : Call tab s bF [(bM 3 x).v, .int .i64 ((2 : Nat) : Int)] H = some (.sl none (aN 3 2).length (enL (aN 3 2)), H) := by
 have h1 := fun s H => fH (s := s) (H := H) (aJa h) (p := ((2 : Nat) : Int))
 have h2 := fun s H => aG3 (s := s) (H := H) x
 have hd : decide (0 ≤ ((2 : Nat) : Int) ∧ ((2 : Nat) : Int) < (bM 3 x).parts.length) = true := by
  show decide (0 ≤ ((2 : Nat) : Int) ∧ ((2 : Nat) : Int) < ((3 : Nat) : Int)) = true
  decide
 simp only [hd] at h1
 unfold Config.v at *
 ((first | refine aJ ?_ | skip); refine bX (cf := aM) rfl rfl rfl rfl ?_; unfold aM; dsimp only [aB, Nat.reduceAdd, Nat.zero_add])
 repeat' (first | refine aS ?_ | refine yc ?_ (ha := by first | exact h1 _ _ | assumption) | (show zn; refine aA ?_ (ha := by first | exact h1 _ _ | assumption)) | (show gA; first | refine aH (fun _ => ?_) fun _ => ?_ | refine gc_E (fun _ => ?_) fun _ => ?_ | refine gc_N (fun _ => ?_) fun _ => ?_ | refine aT ?_ | refine gc_B (fun _ => ?_) fun _ => ?_) | fail)
 refine dE ?_ (ha := h2 _ _)
 refine qP ?_
 refine jP ?_
 refine cF ?_
 exact dU 60 (by kernel_rfl) ⟨rfl⟩
theorem aWg {x : Nums} (h : NumOK 3 x) : NetR (bM 3 x) (aE 3) (aN 3) := ⟨aJa h, fun s H p hp => by
 have hp2 : p < 3 := hp
 rcases (show p = 0 ∨ p = 1 ∨ p = 2 by omega) with rfl | rfl | rfl
 ·exact aOg h
 ·exact aOh h
 ·exact aOi h⟩
end Go.Abs
