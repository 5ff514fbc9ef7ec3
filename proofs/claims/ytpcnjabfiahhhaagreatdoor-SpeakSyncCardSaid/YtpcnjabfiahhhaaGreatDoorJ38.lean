/- A part of the proof of RowSpeakSync: lemmas alone, without conditions. -/
import Derived.Test.YtpcnjabfiahhhaaGreatDoorJ33
set_option linter.all false
namespace Go.Abs
open Go.Proofs.YtpcnjabfiahhhaaGreatDoor
section
variable {s : Option Nat} {H : aB} (x : Nums)
theorem aXg : Call tab s eB [(bP 0 x).v] H = some (.tup [.int .i64 0, .int .i64 0], H) := aE.2 ⟨60, by kernel_rfl⟩
theorem aKq : Call tab s bM [(bP 0 x).v] H = some (.tup [.int .i64 0, .int .i64 0], H) := aE.2 ⟨60, by kernel_rfl⟩
theorem aKr : Call tab s bI [(bP 0 x).v, .int .i64 ((0 : Nat) : Int)] H = some (.sl (some 4) (aG 0 0).length (enL (aG 0 0)), H) := aE.2 ⟨60, by kernel_rfl⟩
theorem aPc : Call tab s bE [(bP 0 x).v, .int .i64 ((0 : Nat) : Int), .sl none (aG 0 0).length (enL (aG 0 0))] H = some (.sl none (aN 0 0).length (enL (aN 0 0)), H) := aE.2 ⟨60, by kernel_rfl⟩
theorem aDd : Call tab s bD [(bP 0 x).v, .int .i64 ((0 : Nat) : Int)] H = some (.sl (some 4) (aG 0 0).length (enL (aG 0 0)), H) := aE.2 ⟨60, by kernel_rfl⟩
theorem aKs : Call tab s bF [(bP 0 x).v, .int .i64 ((0 : Nat) : Int)] H = some (.int .i64 (aG 0 0).length, H) := aE.2 ⟨60, by kernel_rfl⟩
theorem aXh : Call tab s eB [(bP 1 x).v] H = some (.tup [.int .i64 0, .int .i64 0], H) := aE.2 ⟨60, by kernel_rfl⟩
theorem aKt : Call tab s bM [(bP 1 x).v] H = some (.tup [.int .i64 0, .int .i64 0], H) := aE.2 ⟨60, by kernel_rfl⟩
theorem aKu : Call tab s bI [(bP 1 x).v, .int .i64 ((0 : Nat) : Int)] H = some (.sl (some 4) (aG 1 0).length (enL (aG 1 0)), H) := aE.2 ⟨60, by kernel_rfl⟩
theorem aPd : Call tab s bE [(bP 1 x).v, .int .i64 ((0 : Nat) : Int), .sl none (aG 1 0).length (enL (aG 1 0))] H = some (.sl none (aN 1 0).length (enL (aN 1 0)), H) := aE.2 ⟨60, by kernel_rfl⟩
theorem aDe : Call tab s bD [(bP 1 x).v, .int .i64 ((0 : Nat) : Int)] H = some (.sl (some 4) (aG 1 0).length (enL (aG 1 0)), H) := aE.2 ⟨60, by kernel_rfl⟩
theorem aKv : Call tab s bF [(bP 1 x).v, .int .i64 ((0 : Nat) : Int)] H = some (.int .i64 (aG 1 0).length, H) := aE.2 ⟨60, by kernel_rfl⟩
theorem aKw : Call tab s bI [(bP 1 x).v, .int .i64 ((1 : Nat) : Int)] H = some (.sl (some 4) (aG 1 1).length (enL (aG 1 1)), H) := aE.2 ⟨60, by kernel_rfl⟩
theorem aPe : Call tab s bE [(bP 1 x).v, .int .i64 ((1 : Nat) : Int), .sl none (aG 1 1).length (enL (aG 1 1))] H = some (.sl none (aN 1 1).length (enL (aN 1 1)), H) := aE.2 ⟨60, by kernel_rfl⟩
theorem aDf : Call tab s bD [(bP 1 x).v, .int .i64 ((1 : Nat) : Int)] H = some (.sl (some 4) (aG 1 1).length (enL (aG 1 1)), H) := aE.2 ⟨60, by kernel_rfl⟩
theorem aKx : Call tab s bF [(bP 1 x).v, .int .i64 ((1 : Nat) : Int)] H = some (.int .i64 (aG 1 1).length, H) := aE.2 ⟨60, by kernel_rfl⟩
theorem aXi : Call tab s eB [(bP 2 x).v] H = some (.tup [.int .i64 0, .int .i64 0], H) := aE.2 ⟨60, by kernel_rfl⟩
theorem aKy : Call tab s bM [(bP 2 x).v] H = some (.tup [.int .i64 0, .int .i64 0], H) := aE.2 ⟨60, by kernel_rfl⟩
theorem aKz : Call tab s bI [(bP 2 x).v, .int .i64 ((0 : Nat) : Int)] H = some (.sl (some 4) (aG 2 0).length (enL (aG 2 0)), H) := aE.2 ⟨60, by kernel_rfl⟩
theorem aPf : Call tab s bE [(bP 2 x).v, .int .i64 ((0 : Nat) : Int), .sl none (aG 2 0).length (enL (aG 2 0))] H = some (.sl none (aN 2 0).length (enL (aN 2 0)), H) := aE.2 ⟨60, by kernel_rfl⟩
theorem aDg : Call tab s bD [(bP 2 x).v, .int .i64 ((0 : Nat) : Int)] H = some (.sl (some 4) (aG 2 0).length (enL (aG 2 0)), H) := aE.2 ⟨60, by kernel_rfl⟩
theorem aL0 : Call tab s bF [(bP 2 x).v, .int .i64 ((0 : Nat) : Int)] H = some (.int .i64 (aG 2 0).length, H) := aE.2 ⟨60, by kernel_rfl⟩
theorem aL1 : Call tab s bI [(bP 2 x).v, .int .i64 ((1 : Nat) : Int)] H = some (.sl (some 4) (aG 2 1).length (enL (aG 2 1)), H) := aE.2 ⟨60, by kernel_rfl⟩
theorem aPg : Call tab s bE [(bP 2 x).v, .int .i64 ((1 : Nat) : Int), .sl none (aG 2 1).length (enL (aG 2 1))] H = some (.sl none (aN 2 1).length (enL (aN 2 1)), H) := aE.2 ⟨60, by kernel_rfl⟩
theorem aDh : Call tab s bD [(bP 2 x).v, .int .i64 ((1 : Nat) : Int)] H = some (.sl (some 4) (aG 2 1).length (enL (aG 2 1)), H) := aE.2 ⟨60, by kernel_rfl⟩
theorem aL2 : Call tab s bF [(bP 2 x).v, .int .i64 ((1 : Nat) : Int)] H = some (.int .i64 (aG 2 1).length, H) := aE.2 ⟨60, by kernel_rfl⟩
theorem aL3 : Call tab s bI [(bP 2 x).v, .int .i64 ((2 : Nat) : Int)] H = some (.sl (some 4) (aG 2 2).length (enL (aG 2 2)), H) := aE.2 ⟨60, by kernel_rfl⟩
theorem aPh : Call tab s bE [(bP 2 x).v, .int .i64 ((2 : Nat) : Int), .sl none (aG 2 2).length (enL (aG 2 2))] H = some (.sl none (aN 2 2).length (enL (aN 2 2)), H) := aE.2 ⟨60, by kernel_rfl⟩
theorem aDi : Call tab s bD [(bP 2 x).v, .int .i64 ((2 : Nat) : Int)] H = some (.sl (some 4) (aG 2 2).length (enL (aG 2 2)), H) := aE.2 ⟨60, by kernel_rfl⟩
theorem aL4 : Call tab s bF [(bP 2 x).v, .int .i64 ((2 : Nat) : Int)] H = some (.int .i64 (aG 2 2).length, H) := aE.2 ⟨60, by kernel_rfl⟩
theorem aXj : Call tab s eB [(bP 3 x).v] H = some (.tup [.int .i64 0, .int .i64 0], H) := aE.2 ⟨60, by kernel_rfl⟩
theorem aL5 : Call tab s bM [(bP 3 x).v] H = some (.tup [.int .i64 0, .int .i64 0], H) := aE.2 ⟨60, by kernel_rfl⟩
theorem aL6 : Call tab s bI [(bP 3 x).v, .int .i64 ((0 : Nat) : Int)] H = some (.sl (some 4) (aG 3 0).length (enL (aG 3 0)), H) := aE.2 ⟨60, by kernel_rfl⟩
theorem aPi : Call tab s bE [(bP 3 x).v, .int .i64 ((0 : Nat) : Int), .sl none (aG 3 0).length (enL (aG 3 0))] H = some (.sl none (aN 3 0).length (enL (aN 3 0)), H) := aE.2 ⟨60, by kernel_rfl⟩
theorem aDj : Call tab s bD [(bP 3 x).v, .int .i64 ((0 : Nat) : Int)] H = some (.sl (some 4) (aG 3 0).length (enL (aG 3 0)), H) := aE.2 ⟨60, by kernel_rfl⟩
theorem aL7 : Call tab s bF [(bP 3 x).v, .int .i64 ((0 : Nat) : Int)] H = some (.int .i64 (aG 3 0).length, H) := aE.2 ⟨60, by kernel_rfl⟩
theorem aL8 : Call tab s bI [(bP 3 x).v, .int .i64 ((1 : Nat) : Int)] H = some (.sl (some 4) (aG 3 1).length (enL (aG 3 1)), H) := aE.2 ⟨60, by kernel_rfl⟩
theorem aPj : Call tab s bE [(bP 3 x).v, .int .i64 ((1 : Nat) : Int), .sl none (aG 3 1).length (enL (aG 3 1))] H = some (.sl none (aN 3 1).length (enL (aN 3 1)), H) := aE.2 ⟨60, by kernel_rfl⟩
theorem aDk : Call tab s bD [(bP 3 x).v, .int .i64 ((1 : Nat) : Int)] H = some (.sl (some 4) (aG 3 1).length (enL (aG 3 1)), H) := aE.2 ⟨60, by kernel_rfl⟩
theorem aL9 : Call tab s bF [(bP 3 x).v, .int .i64 ((1 : Nat) : Int)] H = some (.int .i64 (aG 3 1).length, H) := aE.2 ⟨60, by kernel_rfl⟩
theorem aLa : Call tab s bI [(bP 3 x).v, .int .i64 ((2 : Nat) : Int)] H = some (.sl (some 4) (aG 3 2).length (enL (aG 3 2)), H) := aE.2 ⟨60, by kernel_rfl⟩
theorem aPk : Call tab s bE [(bP 3 x).v, .int .i64 ((2 : Nat) : Int), .sl none (aG 3 2).length (enL (aG 3 2))] H = some (.sl none (aN 3 2).length (enL (aN 3 2)), H) := aE.2 ⟨60, by kernel_rfl⟩
theorem aDl : Call tab s bD [(bP 3 x).v, .int .i64 ((2 : Nat) : Int)] H = some (.sl (some 4) (aG 3 2).length (enL (aG 3 2)), H) := aE.2 ⟨60, by kernel_rfl⟩
theorem aLb : Call tab s bF [(bP 3 x).v, .int .i64 ((2 : Nat) : Int)] H = some (.int .i64 (aG 3 2).length, H) := aE.2 ⟨60, by kernel_rfl⟩
end
end Go.Abs
namespace Go.Abs
open Go.Proofs.YtpcnjabfiahhhaaGreatDoor
attribute [local irreducible] enL R RR gT fU rC gG gU qS apply fW gZ bQ cC fB bN iN bK bG eS cV lA dU V.rb V.rbL
theorem aRl {x : Nums} (h : NumOK 1 x) : Net (bP 0 x) (aG 0) (aN 0) where
 n1 := by show 1 ≤ 1 ∧ 1 ≤ 4; decide
 chk := fun s H => aXg x
 rchk := fun s H => aKq x
 ends := fun s H p hp => by
  have hp2 : p < 1 := hp
  have hp3 : p = 0 := by omega
  subst hp3
  exact aKr x
 lst := fun s H p hp => by
  have hp2 : p < 1 := hp
  have hp3 : p = 0 := by omega
  subst hp3
  exact aPc x
 rprt := fun s H p hp => by
  have hp2 : p < 1 := hp
  have hp3 : p = 0 := by omega
  subst hp3
  exact aDd x
 rcnt := fun s H p hp => by
  have hp2 : p < 1 := hp
  have hp3 : p = 0 := by omega
  subst hp3
  exact aKs x
 room := fun p hp => by
  have hp2 : p < 1 := hp
  rcases (show p = 0 by omega) with rfl
  all_goals exact of_decide_eq_true (by kernel_rfl)
 cy := h.cy
 dr := h.dr
 ld := rfl
 sl := rfl
 rt := rfl
 rm := rfl
 wi := h.wi
 lo := h.lo
 ag := h.ag
 li := h.li
 sp := h.sp
theorem aNn {x : Nums} (h : NumOK 1 x) {s : Option Nat} {H : aB} : Call tab s aZ [(bP 0 x).v, .int .i64 ((0 : Nat) : Int)] H = some (.sl none (aN 0 0).length (enL (aN 0 0)), H) := by
 have h1 := fun s H => eG (s := s) (H := H) (aRl h) (p := ((0 : Nat) : Int))
 have h2 := fun s H => aDd (s := s) (H := H) x
 have hd : decide (0 ≤ ((0 : Nat) : Int) ∧ ((0 : Nat) : Int) < (bP 0 x).parts.length) = true := by
  show decide (0 ≤ ((0 : Nat) : Int) ∧ ((0 : Nat) : Int) < ((1 : Nat) : Int)) = true
  decide
 simp only [hd] at h1
 unfold Config.v at *
 ((first | refine aJ ?_ | skip); refine cB (cf := aM) rfl rfl rfl rfl ?_; unfold aM; dsimp only [aC, Nat.reduceAdd, Nat.zero_add])
 repeat' (first | refine aS ?_ | refine yc ?_ (ha := by first | exact h1 _ _ | assumption) | (show zn; refine aA ?_ (ha := by first | exact h1 _ _ | assumption)) | (show gA; first | refine aH (fun _ => ?_) fun _ => ?_ | refine gc_E (fun _ => ?_) fun _ => ?_ | refine gc_N (fun _ => ?_) fun _ => ?_ | refine aT ?_ | refine gc_B (fun _ => ?_) fun _ => ?_) | fail)
 refine cY ?_ (ha := h2 _ _)
 refine pH ?_
 refine iT ?_
 refine bX ?_
 exact dL 60 (by kernel_rfl) ⟨rfl⟩
theorem aU1 {x : Nums} (h : NumOK 1 x) : NetR (bP 0 x) (aG 0) (aN 0) := ⟨aRl h, fun s H p hp => by
 have hp2 : p < 1 := hp
 rcases (show p = 0 by omega) with rfl
 ·exact aNn h⟩
theorem aNo {x : Nums} (h : NumOK 2 x) : Net (bP 1 x) (aG 1) (aN 1) where
 n1 := by show 1 ≤ 2 ∧ 2 ≤ 4; decide
 chk := fun s H => aXh x
 rchk := fun s H => aKt x
 ends := fun s H p hp => by
  have hp2 : p < 2 := hp
  rcases (show p = 0 ∨ p = 1 by omega) with rfl | rfl
  ·exact aKu x
  ·exact aKw x
 lst := fun s H p hp => by
  have hp2 : p < 2 := hp
  rcases (show p = 0 ∨ p = 1 by omega) with rfl | rfl
  ·exact aPd x
  ·exact aPe x
 rprt := fun s H p hp => by
  have hp2 : p < 2 := hp
  rcases (show p = 0 ∨ p = 1 by omega) with rfl | rfl
  ·exact aDe x
  ·exact aDf x
 rcnt := fun s H p hp => by
  have hp2 : p < 2 := hp
  rcases (show p = 0 ∨ p = 1 by omega) with rfl | rfl
  ·exact aKv x
  ·exact aKx x
 room := fun p hp => by
  have hp2 : p < 2 := hp
  rcases (show p = 0 ∨ p = 1 by omega) with rfl | rfl
  all_goals exact of_decide_eq_true (by kernel_rfl)
 cy := h.cy
 dr := h.dr
 ld := rfl
 sl := rfl
 rt := rfl
 rm := rfl
 wi := h.wi
 lo := h.lo
 ag := h.ag
 li := h.li
 sp := h.sp
theorem aNp {x : Nums} (h : NumOK 2 x) {s : Option Nat} {H : aB} : Call tab s aZ [(bP 1 x).v, .int .i64 ((0 : Nat) : Int)] H = some (.sl none (aN 1 0).length (enL (aN 1 0)), H) := by
 have h1 := fun s H => eG (s := s) (H := H) (aNo h) (p := ((0 : Nat) : Int))
 have h2 := fun s H => aDe (s := s) (H := H) x
 have hd : decide (0 ≤ ((0 : Nat) : Int) ∧ ((0 : Nat) : Int) < (bP 1 x).parts.length) = true := by
  show decide (0 ≤ ((0 : Nat) : Int) ∧ ((0 : Nat) : Int) < ((2 : Nat) : Int)) = true
  decide
 simp only [hd] at h1
 unfold Config.v at *
 ((first | refine aJ ?_ | skip); refine cB (cf := aM) rfl rfl rfl rfl ?_; unfold aM; dsimp only [aC, Nat.reduceAdd, Nat.zero_add])
 repeat' (first | refine aS ?_ | refine yc ?_ (ha := by first | exact h1 _ _ | assumption) | (show zn; refine aA ?_ (ha := by first | exact h1 _ _ | assumption)) | (show gA; first | refine aH (fun _ => ?_) fun _ => ?_ | refine gc_E (fun _ => ?_) fun _ => ?_ | refine gc_N (fun _ => ?_) fun _ => ?_ | refine aT ?_ | refine gc_B (fun _ => ?_) fun _ => ?_) | fail)
 refine cY ?_ (ha := h2 _ _)
 refine pH ?_
 refine iT ?_
 refine bX ?_
 exact dL 60 (by kernel_rfl) ⟨rfl⟩
theorem aNq {x : Nums} (h : NumOK 2 x) {s : Option Nat} {H : aB} : Call tab s aZ [(bP 1 x).v, .int .i64 ((1 : Nat) : Int)] H = some (.sl none (aN 1 1).length (enL (aN 1 1)), H) := by
 have h1 := fun s H => eG (s := s) (H := H) (aNo h) (p := ((1 : Nat) : Int))
 have h2 := fun s H => aDf (s := s) (H := H) x
 have hd : decide (0 ≤ ((1 : Nat) : Int) ∧ ((1 : Nat) : Int) < (bP 1 x).parts.length) = true := by
  show decide (0 ≤ ((1 : Nat) : Int) ∧ ((1 : Nat) : Int) < ((2 : Nat) : Int)) = true
  decide
 simp only [hd] at h1
 unfold Config.v at *
 ((first | refine aJ ?_ | skip); refine cB (cf := aM) rfl rfl rfl rfl ?_; unfold aM; dsimp only [aC, Nat.reduceAdd, Nat.zero_add])
 repeat' (first | refine aS ?_ | refine yc ?_ (ha := by first | exact h1 _ _ | assumption) | (show zn; refine aA ?_ (ha := by first | exact h1 _ _ | assumption)) | (show gA; first | refine aH (fun _ => ?_) fun _ => ?_ | refine gc_E (fun _ => ?_) fun _ => ?_ | refine gc_N (fun _ => ?_) fun _ => ?_ | refine aT ?_ | refine gc_B (fun _ => ?_) fun _ => ?_) | fail)
 refine cY ?_ (ha := h2 _ _)
 refine pH ?_
 refine iT ?_
 refine bX ?_
 exact dL 60 (by kernel_rfl) ⟨rfl⟩
theorem aU2 {x : Nums} (h : NumOK 2 x) : NetR (bP 1 x) (aG 1) (aN 1) := ⟨aNo h, fun s H p hp => by
 have hp2 : p < 2 := hp
 rcases (show p = 0 ∨ p = 1 by omega) with rfl | rfl
 ·exact aNp h
 ·exact aNq h⟩
theorem aHv {x : Nums} (h : NumOK 3 x) : Net (bP 2 x) (aG 2) (aN 2) where
 n1 := by show 1 ≤ 3 ∧ 3 ≤ 4; decide
 chk := fun s H => aXi x
 rchk := fun s H => aKy x
 ends := fun s H p hp => by
  have hp2 : p < 3 := hp
  rcases (show p = 0 ∨ p = 1 ∨ p = 2 by omega) with rfl | rfl | rfl
  ·exact aKz x
  ·exact aL1 x
  ·exact aL3 x
 lst := fun s H p hp => by
  have hp2 : p < 3 := hp
  rcases (show p = 0 ∨ p = 1 ∨ p = 2 by omega) with rfl | rfl | rfl
  ·exact aPf x
  ·exact aPg x
  ·exact aPh x
 rprt := fun s H p hp => by
  have hp2 : p < 3 := hp
  rcases (show p = 0 ∨ p = 1 ∨ p = 2 by omega) with rfl | rfl | rfl
  ·exact aDg x
  ·exact aDh x
  ·exact aDi x
 rcnt := fun s H p hp => by
  have hp2 : p < 3 := hp
  rcases (show p = 0 ∨ p = 1 ∨ p = 2 by omega) with rfl | rfl | rfl
  ·exact aL0 x
  ·exact aL2 x
  ·exact aL4 x
 room := fun p hp => by
  have hp2 : p < 3 := hp
  rcases (show p = 0 ∨ p = 1 ∨ p = 2 by omega) with rfl | rfl | rfl
  all_goals exact of_decide_eq_true (by kernel_rfl)
 cy := h.cy
 dr := h.dr
 ld := rfl
 sl := rfl
 rt := rfl
 rm := rfl
 wi := h.wi
 lo := h.lo
 ag := h.ag
 li := h.li
 sp := h.sp
theorem aNr {x : Nums} (h : NumOK 3 x) {s : Option Nat} {H : aB} : Call tab s aZ [(bP 2 x).v, .int .i64 ((0 : Nat) : Int)] H = some (.sl none (aN 2 0).length (enL (aN 2 0)), H) := by
 have h1 := fun s H => eG (s := s) (H := H) (aHv h) (p := ((0 : Nat) : Int))
 have h2 := fun s H => aDg (s := s) (H := H) x
 have hd : decide (0 ≤ ((0 : Nat) : Int) ∧ ((0 : Nat) : Int) < (bP 2 x).parts.length) = true := by
  show decide (0 ≤ ((0 : Nat) : Int) ∧ ((0 : Nat) : Int) < ((3 : Nat) : Int)) = true
  decide
 simp only [hd] at h1
 unfold Config.v at *
 ((first | refine aJ ?_ | skip); refine cB (cf := aM) rfl rfl rfl rfl ?_; unfold aM; dsimp only [aC, Nat.reduceAdd, Nat.zero_add])
 repeat' (first | refine aS ?_ | refine yc ?_ (ha := by first | exact h1 _ _ | assumption) | (show zn; refine aA ?_ (ha := by first | exact h1 _ _ | assumption)) | (show gA; first | refine aH (fun _ => ?_) fun _ => ?_ | refine gc_E (fun _ => ?_) fun _ => ?_ | refine gc_N (fun _ => ?_) fun _ => ?_ | refine aT ?_ | refine gc_B (fun _ => ?_) fun _ => ?_) | fail)
 refine cY ?_ (ha := h2 _ _)
 refine pH ?_
 refine iT ?_
 refine bX ?_
 exact dL 60 (by kernel_rfl) ⟨rfl⟩
theorem aNs {x : Nums} (h : NumOK 3 x) {s : Option Nat} {H : aB} : Call tab s aZ [(bP 2 x).v, .int .i64 ((1 : Nat) : Int)] H = some (.sl none (aN 2 1).length (enL (aN 2 1)), H) := by
 have h1 := fun s H => eG (s := s) (H := H) (aHv h) (p := ((1 : Nat) : Int))
 have h2 := fun s H => aDh (s := s) (H := H) x
 have hd : decide (0 ≤ ((1 : Nat) : Int) ∧ ((1 : Nat) : Int) < (bP 2 x).parts.length) = true := by
  show decide (0 ≤ ((1 : Nat) : Int) ∧ ((1 : Nat) : Int) < ((3 : Nat) : Int)) = true
  decide
 simp only [hd] at h1
 unfold Config.v at *
 ((first | refine aJ ?_ | skip); refine cB (cf := aM) rfl rfl rfl rfl ?_; unfold aM; dsimp only [aC, Nat.reduceAdd, Nat.zero_add])
 repeat' (first | refine aS ?_ | refine yc ?_ (ha := by first | exact h1 _ _ | assumption) | (show zn; refine aA ?_ (ha := by first | exact h1 _ _ | assumption)) | (show gA; first | refine aH (fun _ => ?_) fun _ => ?_ | refine gc_E (fun _ => ?_) fun _ => ?_ | refine gc_N (fun _ => ?_) fun _ => ?_ | refine aT ?_ | refine gc_B (fun _ => ?_) fun _ => ?_) | fail)
 refine cY ?_ (ha := h2 _ _)
 refine pH ?_
 refine iT ?_
 refine bX ?_
 exact dL 60 (by kernel_rfl) ⟨rfl⟩
theorem aNt {x : Nums} (h : NumOK 3 x) {s : Option Nat} {H : aB} : Call tab s aZ [(bP 2 x).v, .int .i64 ((2 : Nat) : Int)] H = some (.sl none (aN 2 2).length (enL (aN 2 2)), H) := by
 have h1 := fun s H => eG (s := s) (H := H) (aHv h) (p := ((2 : Nat) : Int))
 have h2 := fun s H => aDi (s := s) (H := H) x
 have hd : decide (0 ≤ ((2 : Nat) : Int) ∧ ((2 : Nat) : Int) < (bP 2 x).parts.length) = true := by
  show decide (0 ≤ ((2 : Nat) : Int) ∧ ((2 : Nat) : Int) < ((3 : Nat) : Int)) = true
  decide
 simp only [hd] at h1
 unfold Config.v at *
 ((first | refine aJ ?_ | skip); refine cB (cf := aM) rfl rfl rfl rfl ?_; unfold aM; dsimp only [aC, Nat.reduceAdd, Nat.zero_add])
 repeat' (first | refine aS ?_ | refine yc ?_ (ha := by first | exact h1 _ _ | assumption) | (show zn; refine aA ?_ (ha := by first | exact h1 _ _ | assumption)) | (show gA; first | refine aH (fun _ => ?_) fun _ => ?_ | refine gc_E (fun _ => ?_) fun _ => ?_ | refine gc_N (fun _ => ?_) fun _ => ?_ | refine aT ?_ | refine gc_B (fun _ => ?_) fun _ => ?_) | fail)
 refine cY ?_ (ha := h2 _ _)
 refine pH ?_
 refine iT ?_
 refine bX ?_
 exact dL 60 (by kernel_rfl) ⟨rfl⟩
theorem aU3 {x : Nums} (h : NumOK 3 x) : NetR (bP 2 x) (aG 2) (aN 2) := ⟨aHv h, fun s H p hp => by
 have hp2 : p < 3 := hp
 rcases (show p = 0 ∨ p = 1 ∨ p = 2 by omega) with rfl | rfl | rfl
 ·exact aNr h
 ·exact aNs h
 ·exact aNt h⟩
theorem aHw {x : Nums} (h : NumOK 3 x) : Net (bP 3 x) (aG 3) (aN 3) where
 n1 := by show 1 ≤ 3 ∧ 3 ≤ 4; decide
 chk := fun s H => aXj x
 rchk := fun s H => aL5 x
 ends := fun s H p hp => by
  have hp2 : p < 3 := hp
  rcases (show p = 0 ∨ p = 1 ∨ p = 2 by omega) with rfl | rfl | rfl
  ·exact aL6 x
  ·exact aL8 x
  ·exact aLa x
 lst := fun s H p hp => by
  have hp2 : p < 3 := hp
  rcases (show p = 0 ∨ p = 1 ∨ p = 2 by omega) with rfl | rfl | rfl
  ·exact aPi x
  ·exact aPj x
  ·exact aPk x
 rprt := fun s H p hp => by
  have hp2 : p < 3 := hp
  rcases (show p = 0 ∨ p = 1 ∨ p = 2 by omega) with rfl | rfl | rfl
  ·exact aDj x
  ·exact aDk x
  ·exact aDl x
 rcnt := fun s H p hp => by
  have hp2 : p < 3 := hp
  rcases (show p = 0 ∨ p = 1 ∨ p = 2 by omega) with rfl | rfl | rfl
  ·exact aL7 x
  ·exact aL9 x
  ·exact aLb x
 room := fun p hp => by
  have hp2 : p < 3 := hp
  rcases (show p = 0 ∨ p = 1 ∨ p = 2 by omega) with rfl | rfl | rfl
  all_goals exact of_decide_eq_true (by kernel_rfl)
 cy := h.cy
 dr := h.dr
 ld := rfl
 sl := rfl
 rt := rfl
 rm := rfl
 wi := h.wi
 lo := h.lo
 ag := h.ag
 li := h.li
 sp := h.sp
theorem aNu {x : Nums} (h : NumOK 3 x) {s : Option Nat} {H : aB} : Call tab s aZ [(bP 3 x).v, .int .i64 ((0 : Nat) : Int)] H = some (.sl none (aN 3 0).length (enL (aN 3 0)), H) := by
 have h1 := fun s H => eG (s := s) (H := H) (aHw h) (p := ((0 : Nat) : Int))
 have h2 := fun s H => aDj (s := s) (H := H) x
 have hd : decide (0 ≤ ((0 : Nat) : Int) ∧ ((0 : Nat) : Int) < (bP 3 x).parts.length) = true := by
  show decide (0 ≤ ((0 : Nat) : Int) ∧ ((0 : Nat) : Int) < ((3 : Nat) : Int)) = true
  decide
 simp only [hd] at h1
 unfold Config.v at *
 ((first | refine aJ ?_ | skip); refine cB (cf := aM) rfl rfl rfl rfl ?_; unfold aM; dsimp only [aC, Nat.reduceAdd, Nat.zero_add])
 repeat' (first | refine aS ?_ | refine yc ?_ (ha := by first | exact h1 _ _ | assumption) | (show zn; refine aA ?_ (ha := by first | exact h1 _ _ | assumption)) | (show gA; first | refine aH (fun _ => ?_) fun _ => ?_ | refine gc_E (fun _ => ?_) fun _ => ?_ | refine gc_N (fun _ => ?_) fun _ => ?_ | refine aT ?_ | refine gc_B (fun _ => ?_) fun _ => ?_) | fail)
 refine cY ?_ (ha := h2 _ _)
 refine pH ?_
 refine iT ?_
 refine bX ?_
 exact dL 60 (by kernel_rfl) ⟨rfl⟩
theorem aNv {x : Nums} (h : NumOK 3 x) {s : Option Nat} {H : aB} : Call tab s aZ [(bP 3 x).v, .int .i64 ((1 : Nat) : Int)] H = some (.sl none (aN 3 1).length (enL (aN 3 1)), H) := by
 have h1 := fun s H => eG (s := s) (H := H) (aHw h) (p := ((1 : Nat) : Int))
 have h2 := fun s H => aDk (s := s) (H := H) x
 have hd : decide (0 ≤ ((1 : Nat) : Int) ∧ ((1 : Nat) : Int) < (bP 3 x).parts.length) = true := by
  show decide (0 ≤ ((1 : Nat) : Int) ∧ ((1 : Nat) : Int) < ((3 : Nat) : Int)) = true
  decide
 simp only [hd] at h1
 unfold Config.v at *
 ((first | refine aJ ?_ | skip); refine cB (cf := aM) rfl rfl rfl rfl ?_; unfold aM; dsimp only [aC, Nat.reduceAdd, Nat.zero_add])
 repeat' (first | refine aS ?_ | refine yc ?_ (ha := by first | exact h1 _ _ | assumption) | (show zn; refine aA ?_ (ha := by first | exact h1 _ _ | assumption)) | (show gA; first | refine aH (fun _ => ?_) fun _ => ?_ | refine gc_E (fun _ => ?_) fun _ => ?_ | refine gc_N (fun _ => ?_) fun _ => ?_ | refine aT ?_ | refine gc_B (fun _ => ?_) fun _ => ?_) | fail)
 refine cY ?_ (ha := h2 _ _)
 refine pH ?_
 refine iT ?_
 refine bX ?_
 exact dL 60 (by kernel_rfl) ⟨rfl⟩
theorem aNw {x : Nums} (h : NumOK 3 x) {s : Option Nat} {H : aB} : Call tab s aZ [(bP 3 x).v, .int .i64 ((2 : Nat) : Int)] H = some (.sl none (aN 3 2).length (enL (aN 3 2)), H) := by
 have h1 := fun s H => eG (s := s) (H := H) (aHw h) (p := ((2 : Nat) : Int))
 have h2 := fun s H => aDl (s := s) (H := H) x
 have hd : decide (0 ≤ ((2 : Nat) : Int) ∧ ((2 : Nat) : Int) < (bP 3 x).parts.length) = true := by
  show decide (0 ≤ ((2 : Nat) : Int) ∧ ((2 : Nat) : Int) < ((3 : Nat) : Int)) = true
  decide
 simp only [hd] at h1
 unfold Config.v at *
 ((first | refine aJ ?_ | skip); refine cB (cf := aM) rfl rfl rfl rfl ?_; unfold aM; dsimp only [aC, Nat.reduceAdd, Nat.zero_add])
 repeat' (first | refine aS ?_ | refine yc ?_ (ha := by first | exact h1 _ _ | assumption) | (show zn; refine aA ?_ (ha := by first | exact h1 _ _ | assumption)) | (show gA; first | refine aH (fun _ => ?_) fun _ => ?_ | refine gc_E (fun _ => ?_) fun _ => ?_ | refine gc_N (fun _ => ?_) fun _ => ?_ | refine aT ?_ | refine gc_B (fun _ => ?_) fun _ => ?_) | fail)
 refine cY ?_ (ha := h2 _ _)
 refine pH ?_
 refine iT ?_
 refine bX ?_
 exact dL 60 (by kernel_rfl) ⟨rfl⟩
theorem aU4 {x : Nums} (h : NumOK 3 x) : NetR (bP 3 x) (aG 3) (aN 3) := ⟨aHw h, fun s H p hp => by
 have hp2 : p < 3 := hp
 rcases (show p = 0 ∨ p = 1 ∨ p = 2 by omega) with rfl | rfl | rfl
 ·exact aNu h
 ·exact aNv h
 ·exact aNw h⟩
end Go.Abs
