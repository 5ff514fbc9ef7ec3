/- A part of the proof of RowSpeakSync: lemmas alone, without conditions. -/
import Derived.Test.YtpcnjabfiahhhaaGreatDoorJ33
set_option linter.all false
namespace Go.Abs
open Go.Proofs.YtpcnjabfiahhhaaGreatDoor
section
variable {s : Option Nat} {H : aB} (x : Nums)
theorem aYe : Call tab s eB [(bP 7 x).v] H = some (.tup [.int .i64 0, .int .i64 0], H) := aE.2 ⟨60, by kernel_rfl⟩
theorem aN6 : Call tab s bM [(bP 7 x).v] H = some (.tup [.int .i64 0, .int .i64 0], H) := aE.2 ⟨60, by kernel_rfl⟩
theorem aN7 : Call tab s bI [(bP 7 x).v, .int .i64 ((0 : Nat) : Int)] H = some (.sl (some 4) (aG 7 0).length (enL (aG 7 0)), H) := aE.2 ⟨60, by kernel_rfl⟩
theorem aQn : Call tab s bE [(bP 7 x).v, .int .i64 ((0 : Nat) : Int), .sl none (aG 7 0).length (enL (aG 7 0))] H = some (.sl none (aN 7 0).length (enL (aN 7 0)), H) := aE.2 ⟨60, by kernel_rfl⟩
theorem aEk : Call tab s bD [(bP 7 x).v, .int .i64 ((0 : Nat) : Int)] H = some (.sl (some 4) (aG 7 0).length (enL (aG 7 0)), H) := aE.2 ⟨60, by kernel_rfl⟩
theorem aN8 : Call tab s bF [(bP 7 x).v, .int .i64 ((0 : Nat) : Int)] H = some (.int .i64 (aG 7 0).length, H) := aE.2 ⟨60, by kernel_rfl⟩
theorem aN9 : Call tab s bI [(bP 7 x).v, .int .i64 ((1 : Nat) : Int)] H = some (.sl (some 4) (aG 7 1).length (enL (aG 7 1)), H) := aE.2 ⟨60, by kernel_rfl⟩
theorem aQo : Call tab s bE [(bP 7 x).v, .int .i64 ((1 : Nat) : Int), .sl none (aG 7 1).length (enL (aG 7 1))] H = some (.sl none (aN 7 1).length (enL (aN 7 1)), H) := aE.2 ⟨60, by kernel_rfl⟩
theorem aEl : Call tab s bD [(bP 7 x).v, .int .i64 ((1 : Nat) : Int)] H = some (.sl (some 4) (aG 7 1).length (enL (aG 7 1)), H) := aE.2 ⟨60, by kernel_rfl⟩
theorem aNa : Call tab s bF [(bP 7 x).v, .int .i64 ((1 : Nat) : Int)] H = some (.int .i64 (aG 7 1).length, H) := aE.2 ⟨60, by kernel_rfl⟩
theorem aNb : Call tab s bI [(bP 7 x).v, .int .i64 ((2 : Nat) : Int)] H = some (.sl (some 4) (aG 7 2).length (enL (aG 7 2)), H) := aE.2 ⟨60, by kernel_rfl⟩
theorem aQp : Call tab s bE [(bP 7 x).v, .int .i64 ((2 : Nat) : Int), .sl none (aG 7 2).length (enL (aG 7 2))] H = some (.sl none (aN 7 2).length (enL (aN 7 2)), H) := aE.2 ⟨60, by kernel_rfl⟩
theorem aEm : Call tab s bD [(bP 7 x).v, .int .i64 ((2 : Nat) : Int)] H = some (.sl (some 4) (aG 7 2).length (enL (aG 7 2)), H) := aE.2 ⟨60, by kernel_rfl⟩
theorem aNd : Call tab s bF [(bP 7 x).v, .int .i64 ((2 : Nat) : Int)] H = some (.int .i64 (aG 7 2).length, H) := aE.2 ⟨60, by kernel_rfl⟩
theorem aNe : Call tab s bI [(bP 7 x).v, .int .i64 ((3 : Nat) : Int)] H = some (.sl (some 4) (aG 7 3).length (enL (aG 7 3)), H) := aE.2 ⟨60, by kernel_rfl⟩
theorem aQq : Call tab s bE [(bP 7 x).v, .int .i64 ((3 : Nat) : Int), .sl none (aG 7 3).length (enL (aG 7 3))] H = some (.sl none (aN 7 3).length (enL (aN 7 3)), H) := aE.2 ⟨60, by kernel_rfl⟩
theorem aEn : Call tab s bD [(bP 7 x).v, .int .i64 ((3 : Nat) : Int)] H = some (.sl (some 4) (aG 7 3).length (enL (aG 7 3)), H) := aE.2 ⟨60, by kernel_rfl⟩
theorem aNf : Call tab s bF [(bP 7 x).v, .int .i64 ((3 : Nat) : Int)] H = some (.int .i64 (aG 7 3).length, H) := aE.2 ⟨60, by kernel_rfl⟩
end
end Go.Abs
namespace Go.Abs
open Go.Proofs.YtpcnjabfiahhhaaGreatDoor
attribute [local irreducible] enL R RR gT fU rC gG gU qS apply fW gZ bQ cC fB bN iN bK bG eS cV lA dU V.rb V.rbL
theorem aCw {x : Nums} (h : NumOK 4 x) : Net (bP 7 x) (aG 7) (aN 7) where
 n1 := by show 1 ≤ 4 ∧ 4 ≤ 4; decide
 chk := fun s H => aYe x
 rchk := fun s H => aN6 x
 ends := fun s H p hp => by
  have hp2 : p < 4 := hp
  rcases (show p = 0 ∨ p = 1 ∨ p = 2 ∨ p = 3 by omega) with rfl | rfl | rfl | rfl
  ·exact aN7 x
  ·exact aN9 x
  ·exact aNb x
  ·exact aNe x
 lst := fun s H p hp => by
  have hp2 : p < 4 := hp
  rcases (show p = 0 ∨ p = 1 ∨ p = 2 ∨ p = 3 by omega) with rfl | rfl | rfl | rfl
  ·exact aQn x
  ·exact aQo x
  ·exact aQp x
  ·exact aQq x
 rprt := fun s H p hp => by
  have hp2 : p < 4 := hp
  rcases (show p = 0 ∨ p = 1 ∨ p = 2 ∨ p = 3 by omega) with rfl | rfl | rfl | rfl
  ·exact aEk x
  ·exact aEl x
  ·exact aEm x
  ·exact aEn x
 rcnt := fun s H p hp => by
  have hp2 : p < 4 := hp
  rcases (show p = 0 ∨ p = 1 ∨ p = 2 ∨ p = 3 by omega) with rfl | rfl | rfl | rfl
  ·exact aN8 x
  ·exact aNa x
  ·exact aNd x
  ·exact aNf x
 room := fun p hp => by
  have hp2 : p < 4 := hp
  rcases (show p = 0 ∨ p = 1 ∨ p = 2 ∨ p = 3 by omega) with rfl | rfl | rfl | rfl
  all_goals exact of_decide_eq_true (by kernel_rfl)
 cy := h.cy
 dr := h.dr
 ld := rfl
 sl := rfl
 rt := rfl
 rm := rfl
 wi := h.wi
 lo := h.lo
 ag := h.ag
 li := h.li
 sp := h.sp
theorem aJp {x : Nums} (h : NumOK 4 x) {s : Option Nat} {H : aB} : Call tab s aZ [(bP 7 x).v, .int .i64 ((0 : Nat) : Int)] H = some (.sl none (aN 7 0).length (enL (aN 7 0)), H) := by
 have h1 := fun s H => eG (s := s) (H := H) (aCw h) (p := ((0 : Nat) : Int))
 have h2 := fun s H => aEk (s := s) (H := H) x
 have hd : decide (0 ≤ ((0 : Nat) : Int) ∧ ((0 : Nat) : Int) < (bP 7 x).parts.length) = true := by
  show decide (0 ≤ ((0 : Nat) : Int) ∧ ((0 : Nat) : Int) < ((4 : Nat) : Int)) = true
  decide
 simp only [hd] at h1
 unfold Config.v at *
 ((first | refine aJ ?_ | skip); refine cB (cf := aM) rfl rfl rfl rfl ?_; unfold aM; dsimp only [aC, Nat.reduceAdd, Nat.zero_add])
 repeat' (first | refine aS ?_ | refine yc ?_ (ha := by first | exact h1 _ _ | assumption) | (show zn; refine aA ?_ (ha := by first | exact h1 _ _ | assumption)) | (show gA; first | refine aH (fun _ => ?_) fun _ => ?_ | refine gc_E (fun _ => ?_) fun _ => ?_ | refine gc_N (fun _ => ?_) fun _ => ?_ | refine aT ?_ | refine gc_B (fun _ => ?_) fun _ => ?_) | fail)
 refine cY ?_ (ha := h2 _ _)
 refine pH ?_
 refine iT ?_
 refine bX ?_
 exact dL 60 (by kernel_rfl) ⟨rfl⟩
theorem aJq {x : Nums} (h : NumOK 4 x) {s : Option Nat} {H : aB} : Call tab s aZ [(bP 7 x).v, .int .i64 ((1 : Nat) : Int)] H = some (.sl none (aN 7 1).length (enL (aN 7 1)), H) := by
 have h1 := fun s H => eG (s := s) (H := H) (aCw h) (p := ((1 : Nat) : Int))
 have h2 := fun s H => aEl (s := s) (H := H) x
 have hd : decide (0 ≤ ((1 : Nat) : Int) ∧ ((1 : Nat) : Int) < (bP 7 x).parts.length) = true := by
  show decide (0 ≤ ((1 : Nat) : Int) ∧ ((1 : Nat) : Int) < ((4 : Nat) : Int)) = true
  decide
 simp only [hd] at h1
 unfold Config.v at *
 ((first | refine aJ ?_ | skip); refine cB (cf := aM) rfl rfl rfl rfl ?_; unfold aM; dsimp only [aC, Nat.reduceAdd, Nat.zero_add])
 repeat' (first | refine aS ?_ | refine yc ?_ (ha := by first | exact h1 _ _ | assumption) | (show zn; refine aA ?_ (ha := by first | exact h1 _ _ | assumption)) | (show gA; first | refine aH (fun _ => ?_) fun _ => ?_ | refine gc_E (fun _ => ?_) fun _ => ?_ | refine gc_N (fun _ => ?_) fun _ => ?_ | refine aT ?_ | refine gc_B (fun _ => ?_) fun _ => ?_) | fail)
 refine cY ?_ (ha := h2 _ _)
 refine pH ?_
 refine iT ?_
 refine bX ?_
 exact dL 60 (by kernel_rfl) ⟨rfl⟩
theorem aJr {x : Nums} (h : NumOK 4 x) {s : Option Nat} {H : aB} : Call tab s aZ [(bP 7 x).v, .int .i64 ((2 : Nat) : Int)] H = some (.sl none (aN 7 2).length (enL (aN 7 2)), H) := by
 have h1 := fun s H => eG (s := s) (H := H) (aCw h) (p := ((2 : Nat) : Int))
 have h2 := fun s H => aEm (s := s) (H := H) x
 have hd : decide (0 ≤ ((2 : Nat) : Int) ∧ ((2 : Nat) : Int) < (bP 7 x).parts.length) = true := by
  show decide (0 ≤ ((2 : Nat) : Int) ∧ ((2 : Nat) : Int) < ((4 : Nat) : Int)) = true
  decide
 simp only [hd] at h1
 unfold Config.v at *
 ((first | refine aJ ?_ | skip); refine cB (cf := aM) rfl rfl rfl rfl ?_; unfold aM; dsimp only [aC, Nat.reduceAdd, Nat.zero_add])
 repeat' (first | refine aS ?_ | refine yc ?_ (ha := by first | exact h1 _ _ | assumption) | (show zn; refine aA ?_ (ha := by first | exact h1 _ _ | assumption)) | (show gA; first | refine aH (fun _ => ?_) fun _ => ?_ | refine gc_E (fun _ => ?_) fun _ => ?_ | refine gc_N (fun _ => ?_) fun _ => ?_ | refine aT ?_ | refine gc_B (fun _ => ?_) fun _ => ?_) | fail)
 refine cY ?_ (ha := h2 _ _)
 refine pH ?_
 refine iT ?_
 refine bX ?_
 exact dL 60 (by kernel_rfl) ⟨rfl⟩
theorem aJs {x : Nums} (h : NumOK 4 x) {s : Option Nat} {H : aB} : Call tab s aZ [(bP 7 x).v, .int .i64 ((3 : Nat) : Int)] H = some (.sl none (aN 7 3).length (enL (aN 7 3)), H) := by
 have h1 := fun s H => eG (s := s) (H := H) (aCw h) (p := ((3 : Nat) : Int))
 have h2 := fun s H => aEn (s := s) (H := H) x
 have hd : decide (0 ≤ ((3 : Nat) : Int) ∧ ((3 : Nat) : Int) < (bP 7 x).parts.length) = true := by
  show decide (0 ≤ ((3 : Nat) : Int) ∧ ((3 : Nat) : Int) < ((4 : Nat) : Int)) = true
  decide
 simp only [hd] at h1
 unfold Config.v at *
 ((first | refine aJ ?_ | skip); refine cB (cf := aM) rfl rfl rfl rfl ?_; unfold aM; dsimp only [aC, Nat.reduceAdd, Nat.zero_add])
 repeat' (first | refine aS ?_ | refine yc ?_ (ha := by first | exact h1 _ _ | assumption) | (show zn; refine aA ?_ (ha := by first | exact h1 _ _ | assumption)) | (show gA; first | refine aH (fun _ => ?_) fun _ => ?_ | refine gc_E (fun _ => ?_) fun _ => ?_ | refine gc_N (fun _ => ?_) fun _ => ?_ | refine aT ?_ | refine gc_B (fun _ => ?_) fun _ => ?_) | fail)
 refine cY ?_ (ha := h2 _ _)
 refine pH ?_
 refine iT ?_
 refine bX ?_
 exact dL 60 (by kernel_rfl) ⟨rfl⟩
theorem aRt {x : Nums} (h : NumOK 4 x) : NetR (bP 7 x) (aG 7) (aN 7) := ⟨aCw h, fun s H p hp => by
 have hp2 : p < 4 := hp
 rcases (show p = 0 ∨ p = 1 ∨ p = 2 ∨ p = 3 by omega) with rfl | rfl | rfl | rfl
 ·exact aJp h
 ·exact aJq h
 ·exact aJr h
 ·exact aJs h⟩
end Go.Abs
