/- A part of the proof of RowSpeakSync: lemmas alone, without conditions. -/
import Derived.Test.YtpcnjabfiahhhaaGreatDoorJ31
set_option linter.all false
namespace Go.Abs
open Go.Proofs.YtpcnjabfiahhhaaGreatDoor
attribute [local irreducible] enL R RR gT fU rC gG gU qS apply fW gZ bQ cC fB bN iN bK bG eS cV lA dU V.rb V.rbL
section
variable {c : Config} {P : Nat → List Port} {S : Nat → List Slot} {s : Option Nat} {H : aB}
theorem aBh (h : Net c P S) : Call tab s mF [c.v] H = some (.int .i64 (edgeC c), H) := by
 have h1 := h.eb; have h4 := h.m1; have h5 := h.m2; have h9 := h.dr
 have w1 : IntKind.i64.wrap (2 * c.drift * c.cycle) = 2 * c.drift * c.cycle := IntWalk.i64_in _ (by omega)
 have w3 : IntKind.i64.wrap (uF (2 * c.drift * c.cycle) 1000000 + 1) = edgeC c := IntWalk.i64_in _ (by have : edgeC c = uF (2 * c.drift * c.cycle) 1000000 + 1 := rfl; omega)
 unfold Config.v
 ((first | refine aJ ?_ | skip); refine cB (cf := mK) rfl rfl rfl rfl ?_; unfold mK; dsimp only [aC, Nat.reduceAdd, Nat.zero_add])
 repeat' (first | refine aS ?_ | refine yc ?_ (ha := by first | exact aJb (by omega) | assumption) | (show zn; refine aA ?_ (ha := by first | exact aJb (by omega) | assumption)) | (show gA; first | refine aH (fun _ => ?_) fun _ => ?_ | refine gc_E (fun _ => ?_) fun _ => ?_ | refine gc_N (fun _ => ?_) fun _ => ?_ | refine aT ?_ | refine gc_B (fun _ => ?_) fun _ => ?_) | fail)
 rfl
theorem aPu (h : Net c P S) : Call tab s A9 [c.v] H = some (.int .i64 (zH c), H) := by
 have h4 := h.m1
 have w2 : IntKind.i64.wrap (c.drift * c.cycle) = c.drift * c.cycle := IntWalk.i64_in _ (by omega)
 unfold Config.v
 ((first | refine aJ ?_ | skip); refine cB (cf := sD) rfl rfl rfl rfl ?_; unfold sD; dsimp only [aC, Nat.reduceAdd, Nat.zero_add])
 repeat' (first | refine aS ?_ | refine yc ?_ (ha := by first | exact aJb (by omega) | assumption) | (show zn; refine aA ?_ (ha := by first | exact aJb (by omega) | assumption)) | (show gA; first | refine aH (fun _ => ?_) fun _ => ?_ | refine gc_E (fun _ => ?_) fun _ => ?_ | refine gc_N (fun _ => ?_) fun _ => ?_ | refine aT ?_ | refine gc_B (fun _ => ?_) fun _ => ?_) | fail)
 rfl
theorem aPv (h : Net c P S) : Call tab s A7 [c.v] H = some (.int .i64 (nK c), H) := by
 have h1 := fun s H => aBh (s := s) (H := H) h
 have h2 := fun s H => aPu (s := s) (H := H) h
 have h3 := h.eb; have h4 := h.sb
 have w4 : IntKind.i64.wrap (4 * edgeC c + 2 * zH c + 2) = nK c := by rw [IntWalk.i64_in _ (by omega)]; unfold nK; omega
 unfold Config.v at *
 ((first | refine aJ ?_ | skip); refine cB (cf := rZ) rfl rfl rfl rfl ?_; unfold rZ; dsimp only [aC, Nat.reduceAdd, Nat.zero_add])
 repeat' (first | refine aS ?_ | refine yc ?_ (ha := by first | exact h1 _ _ | exact h2 _ _ | assumption) | (show zn; refine aA ?_ (ha := by first | exact h1 _ _ | exact h2 _ _ | assumption)) | (show gA; first | refine aH (fun _ => ?_) fun _ => ?_ | refine gc_E (fun _ => ?_) fun _ => ?_ | refine gc_N (fun _ => ?_) fun _ => ?_ | refine aT ?_ | refine gc_B (fun _ => ?_) fun _ => ?_) | fail)
 rfl
theorem aPw (h : Net c P S) : Call tab s A5 [c.v] H = some (.int .i64 (o6 c), H) := by
 have h1 := fun s H => aBh (s := s) (H := H) h
 have h2 := fun s H => aPv (s := s) (H := H) h
 have h3 := h.eb; have hj := h.jb; have h6 := h.pb; have h7 := h.pl; have h8 := h.n1; have hd := h.lo; have ha := h.ag
 have w5 : IntKind.i64.wrap (2 * c.ages * nK c) = 2 * c.ages * nK c := IntWalk.i64_in _ (by omega)
 have w6 : IntKind.i64.wrap (2 * c.ages * nK c + 4 * edgeC c) = o6 c := by rw [IntWalk.i64_in _ (by omega)]; unfold o6; omega
 unfold Config.v at *
 ((first | refine aJ ?_ | skip); refine cB (cf := sZ) rfl rfl rfl rfl ?_; unfold sZ; dsimp only [aC, Nat.reduceAdd, Nat.zero_add])
 repeat' (first | refine aS ?_ | refine yc ?_ (ha := by first | exact h1 _ _ | exact h2 _ _ | assumption) | (show zn; refine aA ?_ (ha := by first | exact h1 _ _ | exact h2 _ _ | assumption)) | (show gA; first | refine aH (fun _ => ?_) fun _ => ?_ | refine gc_E (fun _ => ?_) fun _ => ?_ | refine gc_N (fun _ => ?_) fun _ => ?_ | refine aT ?_ | refine gc_B (fun _ => ?_) fun _ => ?_) | fail)
 rfl
theorem aTa (h : Net c P S) : Call tab s uV [c.v] H = some (.int .i64 0, H) := by
 have h1 := h.cy; have h2 := h.dr; have h3 := h.rt; have h4 := h.ag; have h5 := h.lo; have h6 := h.pb; have h7 := h.pl; have h8 := h.n1
 unfold Config.v
 ((first | refine aJ ?_ | skip); refine cB (cf := nW) rfl rfl rfl rfl ?_; unfold nW; dsimp only [aC, Nat.reduceAdd, Nat.zero_add])
 repeat' (first | refine aS ?_ | refine yc ?_ | (show zn; refine aA ?_) | (show gA; first | refine aH (fun _ => ?_) fun _ => ?_ | refine gc_E (fun _ => ?_) fun _ => ?_ | refine gc_N (fun _ => ?_) fun _ => ?_ | refine aT ?_ | refine gc_B (fun _ => ?_) fun _ => ?_) | fail)
 rfl
set_option maxHeartbeats 2000000 in
theorem aLr (h : Net c P S) : Call tab s z9 [c.v] H = some (.int .i64 0, H) := by
 have h1 := fun s H => aBh (s := s) (H := H) h
 have h2 := fun s H => aPw (s := s) (H := H) h
 have hcnt := h.rcnt; have hro := h.room
 have hw := h.wi; have hl := h.ld; have hs := h.sl; have he := h.eb; have hc := h.cy; have hr := h.rt; have hj := h.jb
 have hp := h.pb; have hq := h.pl; have hn := h.n1; have hlo := h.lo; have hag := h.ag; have hli := h.li; have hsp := h.sp; have hrm := h.rm
 have hjj : o6 c = 2 * c.ages * nK c + 2 * (2 * edgeC c) := rfl
 have e1 : c.rate * c.cycle = 300000 * c.cycle := by rw [hr]
 have w1 : IntKind.i64.wrap (c.rate * c.cycle) = 300000 * c.cycle := by rw [e1]; exact IntWalk.i64_in _ (by omega)
 have w2 : IntKind.i64.wrap ((c.parts.length : Int) * (c.lost + 1)) = (c.parts.length : Int) * (c.lost + 1) := IntWalk.i64_in _ (by omega)
 have w3 : IntKind.i64.wrap (((c.parts.length : Int) - 1) * (c.lost + 1)) = ((c.parts.length : Int) - 1) * (c.lost + 1) := IntWalk.i64_in _ (by omega)
 have hps := f4 (a := (c.parts.length : Int)) (b := c.span) (m := 4) (n := 12) (by omega) (by omega)
 have w4 : IntKind.i64.wrap ((c.parts.length : Int) * c.span) = (c.parts.length : Int) * c.span := IntWalk.i64_in _ (by omega)
 unfold Config.v at *
 ((first | refine aJ ?_ | skip); refine cB (cf := sO) rfl rfl rfl rfl ?_; unfold sO; dsimp only [aC, Nat.reduceAdd, Nat.zero_add])
 repeat' (first | refine aS ?_ | refine yc ?_ (ha := by first | exact h1 _ _ | assumption) | (show zn; refine aA ?_ (ha := by first | exact h1 _ _ | assumption)) | (show gA; first | refine aH (fun _ => ?_) fun _ => ?_ | refine gc_E (fun _ => ?_) fun _ => ?_ | refine gc_N (fun _ => ?_) fun _ => ?_ | refine aT ?_ | refine gc_B (fun _ => ?_) fun _ => ?_) | fail)
 refine yP c.parts.length (fun i (_ : Unit) => [(5, .int .i64 i)]) (fun _ _ => _) (fun _ _ => True) ?_ ?_ () trivial
 ·intro i _ hi _ ih
  obtain ⟨x, hx⟩ := yO hi
  have hr2 := hro i hi
  unfold aCf at hr2
  rw [aXt hx] at hr2
  have hil : (i : Int) < (c.parts.length : Int) := by omega
  have hwi : IntKind.i64.wrap ((i : Int) + 1) = ((i + 1 : Nat) : Int) := IntWalk.i64_in _ (by omega)
  have e1 : (3 * ((P i).length : Int) + x.nodes) * c.slot = (3 * ((P i).length : Int) + x.nodes) * 100 := by rw [hs]
  have w1 : IntKind.i64.wrap ((3 * ((P i).length : Int) + x.nodes) * c.slot) = (3 * ((P i).length : Int) + x.nodes) * 100 := by rw [e1]; exact IntWalk.i64_in _ (by omega)
  refine cG (by dsimp only [qG, lk, Nat.reduceBEq, cond_true, cond_false, Option.getD_some, Option.getD_none]; first | done | exact rfl) ?_; refine bB ?_
  unfold tM
  repeat' (first | refine aS ?_ | refine yc ?_ (ha := by first | exact hcnt _ _ _ hi | assumption) | (show zn; refine aA ?_ (ha := by first | exact hcnt _ _ _ hi | assumption)) | (show gA; first | refine aH (fun _ => ?_) fun _ => ?_ | refine gc_E (fun _ => ?_) fun _ => ?_ | refine gc_N (fun _ => ?_) fun _ => ?_ | refine aT ?_ | refine gc_B (fun _ => ?_) fun _ => ?_) | fail)
  refine jW ?_
  exact ih () trivial
 ·intro _ _
  refine cG (by dsimp only [qG, lk, Nat.reduceBEq, cond_true, cond_false, Option.getD_some, Option.getD_none]; first | done | exact rfl) ?_; refine bB ?_
  unfold tM
  repeat' (first | refine aS ?_ | refine yc ?_ (ha := by first | exact h2 _ _ | assumption) | (show zn; refine aA ?_ (ha := by first | exact h2 _ _ | assumption)) | (show gA; first | refine aH (fun _ => ?_) fun _ => ?_ | refine gc_E (fun _ => ?_) fun _ => ?_ | refine gc_N (fun _ => ?_) fun _ => ?_ | refine aT ?_ | refine gc_B (fun _ => ?_) fun _ => ?_) | fail)
  rfl
theorem aPx (h : Net c P S) : Call tab s z6 [c.v] H = some (.tup [.int .i64 0, .int .i64 0], H) := by
 have h1 := h.rchk
 have h2 := fun s H => aTa (s := s) (H := H) h
 have h3 := fun s H => aLr (s := s) (H := H) h
 unfold Config.v at *
 ((first | refine aJ ?_ | skip); refine cB (cf := sJ) rfl rfl rfl rfl ?_; unfold sJ; dsimp only [aC, Nat.reduceAdd, Nat.zero_add])
 repeat' (first | refine aS ?_ | refine yc ?_ (ha := by first | exact h1 _ _ | exact h2 _ _ | exact h3 _ _ | assumption) | (show zn; refine aA ?_ (ha := by first | exact h1 _ _ | exact h2 _ _ | exact h3 _ _ | assumption)) | (show gA; first | refine aH (fun _ => ?_) fun _ => ?_ | refine gc_E (fun _ => ?_) fun _ => ?_ | refine gc_N (fun _ => ?_) fun _ => ?_ | refine aT ?_ | refine gc_B (fun _ => ?_) fun _ => ?_) | fail)
 rfl
theorem aHe {a b : Int} : Call tab s qL [.int .i64 a, .int .i64 b] H = some (.bool (decide (0 ≤ a ∧ a < b)), H) := by
 ((first | refine aJ ?_ | skip); refine cB (cf := yD) rfl rfl rfl rfl ?_; unfold yD; dsimp only [aC, Nat.reduceAdd, Nat.zero_add])
 repeat' (first | refine aS ?_ | refine yc ?_ | (show zn; refine aA ?_) | (show gA; first | refine aH (fun _ => ?_) fun _ => ?_ | refine gc_E (fun _ => ?_) fun _ => ?_ | refine gc_N (fun _ => ?_) fun _ => ?_ | refine aT ?_ | refine gc_B (fun _ => ?_) fun _ => ?_) | fail)
 all_goals first | (with_reducible rfl) | (simp only [Option.some.injEq, Prod.mk.injEq, V.bool.injEq, V.tup.injEq, V.int.injEq, List.cons.injEq, and_true, true_and]; first | done | (rw [Bool.eq_iff_iff]; simp only [decide_eq_true_eq, Bool.false_eq_true, Bool.true_eq_false, false_iff, iff_false, true_iff, iff_true, Bool.not_eq_true, decide_eq_false_iff_not, Bool.and_eq_true, Bool.or_eq_true]; omega) | omega)
theorem eG (h : Net c P S) {p : Int} : Call tab s uS [c.v, .int .i64 p] H = some (.bool (decide (0 ≤ p ∧ p < c.parts.length)), H) := by
 have h1 := fun s H => aPx (s := s) (H := H) h
 unfold Config.v at *
 ((first | refine aJ ?_ | skip); refine cB (cf := vW) rfl rfl rfl rfl ?_; unfold vW; dsimp only [aC, Nat.reduceAdd, Nat.zero_add])
 repeat' (first | refine aS ?_ | refine yc ?_ (ha := by first | exact h1 _ _ | exact aHe | assumption) | (show zn; refine aA ?_ (ha := by first | exact h1 _ _ | exact aHe | assumption)) | (show gA; first | refine aH (fun _ => ?_) fun _ => ?_ | refine gc_E (fun _ => ?_) fun _ => ?_ | refine gc_N (fun _ => ?_) fun _ => ?_ | refine aT ?_ | refine gc_B (fun _ => ?_) fun _ => ?_) | fail)
 rfl
theorem aLs (h : Net c P S) {p : Int} (hp : 0 ≤ p ∧ p < c.parts.length) : Call tab s g9 [c.v, .int .i64 p] H = some (.int .i64 (IntKind.i64.wrap (c.listen + IntKind.i64.wrap (p * c.span))), H) := by
 have h1 := fun s H => eG (s := s) (H := H) h (p := p)
 unfold Config.v at *
 ((first | refine aJ ?_ | skip); refine cB (cf := qF) rfl rfl rfl rfl ?_; unfold qF; dsimp only [aC, Nat.reduceAdd, Nat.zero_add])
 repeat' (first | refine aS ?_ | refine yc ?_ (ha := by first | exact h1 _ _ | assumption) | (show zn; refine aA ?_ (ha := by first | exact h1 _ _ | assumption)) | (show gA; first | refine aH (fun _ => ?_) fun _ => ?_ | refine gc_E (fun _ => ?_) fun _ => ?_ | refine gc_N (fun _ => ?_) fun _ => ?_ | refine aT ?_ | refine gc_B (fun _ => ?_) fun _ => ?_) | fail)
 rfl
end
end Go.Abs
