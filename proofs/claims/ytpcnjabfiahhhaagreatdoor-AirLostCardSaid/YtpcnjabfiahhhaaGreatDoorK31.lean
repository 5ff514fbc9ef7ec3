/- A part of the proof of RowAirFits, RowAirHeard, RowAirOrder, RowAirLost: lemmas alone, without conditions. -/
import Derived.Test.YtpcnjabfiahhhaaGreatDoorK30
set_option linter.all false
namespace Go.Abs
open Go.Proofs.YtpcnjabfiahhhaaGreatDoor
attribute [local irreducible] enL R RR dF cZ lV dE dG mP apply dB eI aX aZ cO aW fB aP aN cK bN gL cA V.rb V.rbL
section
variable {c : Config} {P : Nat → List Port} {S : Nat → List Slot} {s : Option Nat} {H : aB}
theorem aD6 (h : Net c P S) : Call tab s nZ [c.v] H = some (.int .i64 (edgeC c), H) := by
 have h1 := h.eb; have h4 := h.m1; have h5 := h.m2; have h9 := h.dr
 have w1 : IntKind.i64.wrap (2 * c.drift * c.cycle) = 2 * c.drift * c.cycle := IntWalk.i64_in _ (by omega)
 have w3 : IntKind.i64.wrap (P0 (2 * c.drift * c.cycle) 1000000 + 1) = edgeC c := IntWalk.i64_in _ (by have : edgeC c = P0 (2 * c.drift * c.cycle) 1000000 + 1 := rfl; omega)
 unfold Config.v
 ((first | refine aC ?_ | skip); refine bE (cf := qE) rfl rfl rfl rfl ?_; unfold qE; dsimp only [aA, Nat.reduceAdd, Nat.zero_add])
 repeat' (first | refine aF ?_ | refine yc ?_ (ha := by first | exact aTi (by omega) | assumption) | refine sG (fun _ => ?_) fun _ => ?_ | refine aG ?_ | refine sH (fun _ => ?_) fun _ => ?_ | fail)
 rfl
theorem aPa (h : Net c P S) : Call tab s O0 [c.v] H = some (.int .i64 (n5 c), H) := by
 have h4 := h.m1
 have w2 : IntKind.i64.wrap (c.drift * c.cycle) = c.drift * c.cycle := IntWalk.i64_in _ (by omega)
 unfold Config.v
 ((first | refine aC ?_ | skip); refine bE (cf := d0) rfl rfl rfl rfl ?_; unfold d0; dsimp only [aA, Nat.reduceAdd, Nat.zero_add])
 repeat' (first | refine aF ?_ | refine yc ?_ (ha := by first | exact aTi (by omega) | assumption) | refine sG (fun _ => ?_) fun _ => ?_ | refine aG ?_ | refine sH (fun _ => ?_) fun _ => ?_ | fail)
 rfl
theorem aPb (h : Net c P S) : Call tab s N9 [c.v] H = some (.int .i64 (oM c), H) := by
 have h1 := fun s H => aD6 (s := s) (H := H) h
 have h2 := fun s H => aPa (s := s) (H := H) h
 have h3 := h.eb; have h4 := h.sb
 have w4 : IntKind.i64.wrap (4 * edgeC c + 2 * n5 c + 2) = oM c := by rw [IntWalk.i64_in _ (by omega)]; unfold oM; omega
 unfold Config.v at *
 ((first | refine aC ?_ | skip); refine bE (cf := j5) rfl rfl rfl rfl ?_; unfold j5; dsimp only [aA, Nat.reduceAdd, Nat.zero_add])
 repeat' (first | refine aF ?_ | refine yc ?_ (ha := by first | exact h1 _ _ | exact h2 _ _ | assumption) | refine sG (fun _ => ?_) fun _ => ?_ | refine aG ?_ | refine sH (fun _ => ?_) fun _ => ?_ | fail)
 rfl
theorem aPc (h : Net c P S) : Call tab s N7 [c.v] H = some (.int .i64 (B5 c), H) := by
 have h1 := fun s H => aD6 (s := s) (H := H) h
 have h2 := fun s H => aPb (s := s) (H := H) h
 have h3 := h.eb; have hj := h.jb; have h6 := h.pb; have h7 := h.pl; have h8 := h.n1; have hd := h.lo; have ha := h.ag
 have w5 : IntKind.i64.wrap (2 * c.ages * oM c) = 2 * c.ages * oM c := IntWalk.i64_in _ (by omega)
 have w6 : IntKind.i64.wrap (2 * c.ages * oM c + 4 * edgeC c) = B5 c := by rw [IntWalk.i64_in _ (by omega)]; unfold B5; omega
 unfold Config.v at *
 ((first | refine aC ?_ | skip); refine bE (cf := i9) rfl rfl rfl rfl ?_; unfold i9; dsimp only [aA, Nat.reduceAdd, Nat.zero_add])
 repeat' (first | refine aF ?_ | refine yc ?_ (ha := by first | exact h1 _ _ | exact h2 _ _ | assumption) | refine sG (fun _ => ?_) fun _ => ?_ | refine aG ?_ | refine sH (fun _ => ?_) fun _ => ?_ | fail)
 rfl
theorem aLt (h : Net c P S) : Call tab s xX [c.v] H = some (.int .i64 0, H) := by
 have h1 := h.cy; have h2 := h.dr; have h3 := h.rt; have h4 := h.ag; have h5 := h.lo; have h6 := h.pb; have h7 := h.pl; have h8 := h.n1
 unfold Config.v
 ((first | refine aC ?_ | skip); refine bE (cf := sL) rfl rfl rfl rfl ?_; unfold sL; dsimp only [aA, Nat.reduceAdd, Nat.zero_add])
 repeat' (first | refine aF ?_ | refine yc ?_ | refine sG (fun _ => ?_) fun _ => ?_ | refine aG ?_ | refine sH (fun _ => ?_) fun _ => ?_ | fail)
 rfl
set_option maxHeartbeats 2000000 in
theorem aLu (h : Net c P S) : Call tab s N3 [c.v] H = some (.int .i64 0, H) := by
 have h1 := fun s H => aD6 (s := s) (H := H) h
 have h2 := fun s H => aPc (s := s) (H := H) h
 have hcnt := h.rcnt; have hro := h.room
 have hw := h.wi; have hl := h.ld; have hs := h.sl; have he := h.eb; have hc := h.cy; have hr := h.rt; have hj := h.jb
 have hp := h.pb; have hq := h.pl; have hn := h.n1; have hlo := h.lo; have hag := h.ag; have hli := h.li; have hsp := h.sp; have hrm := h.rm
 have hjj : B5 c = 2 * c.ages * oM c + 2 * (2 * edgeC c) := rfl
 have e1 : c.rate * c.cycle = 300000 * c.cycle := by rw [hr]
 have w1 : IntKind.i64.wrap (c.rate * c.cycle) = 300000 * c.cycle := by rw [e1]; exact IntWalk.i64_in _ (by omega)
 have w2 : IntKind.i64.wrap ((c.parts.length : Int) * (c.lost + 1)) = (c.parts.length : Int) * (c.lost + 1) := IntWalk.i64_in _ (by omega)
 have w3 : IntKind.i64.wrap (((c.parts.length : Int) - 1) * (c.lost + 1)) = ((c.parts.length : Int) - 1) * (c.lost + 1) := IntWalk.i64_in _ (by omega)
 have hps := u9 (a := (c.parts.length : Int)) (b := c.span) (m := 4) (n := 12) (by omega) (by omega)
 have w4 : IntKind.i64.wrap ((c.parts.length : Int) * c.span) = (c.parts.length : Int) * c.span := IntWalk.i64_in _ (by omega)
 unfold Config.v at *
 ((first | refine aC ?_ | skip); refine bE (cf := b9) rfl rfl rfl rfl ?_; unfold b9; dsimp only [aA, Nat.reduceAdd, Nat.zero_add])
 repeat' (first | refine aF ?_ | refine yc ?_ (ha := by first | exact h1 _ _ | assumption) | refine sG (fun _ => ?_) fun _ => ?_ | refine aG ?_ | refine sH (fun _ => ?_) fun _ => ?_ | fail)
 refine oK c.parts.length (fun i (_ : Unit) => [(5, .int .i64 i)]) (fun _ _ => _) (fun _ _ => True) ?_ ?_ () trivial
 ·intro i _ hi _ ih
  obtain ⟨x, hx⟩ := oZ hi
  have hr2 := hro i hi
  unfold wR at hr2
  rw [aWq hx] at hr2
  have hil : (i : Int) < (c.parts.length : Int) := by omega
  have hwi : IntKind.i64.wrap ((i : Int) + 1) = ((i + 1 : Nat) : Int) := IntWalk.i64_in _ (by omega)
  have e1 : (3 * ((P i).length : Int) + x.nodes) * c.slot = (3 * ((P i).length : Int) + x.nodes) * 100 := by rw [hs]
  have w1 : IntKind.i64.wrap ((3 * ((P i).length : Int) + x.nodes) * c.slot) = (3 * ((P i).length : Int) + x.nodes) * 100 := by rw [e1]; exact IntWalk.i64_in _ (by omega)
  refine aJ (by dsimp only [eT, lk, Nat.reduceBEq, cond_true, cond_false, Option.getD_some, Option.getD_none]; first | done | exact rfl) ?_; refine aE ?_
  unfold uU
  repeat' (first | refine aF ?_ | refine yc ?_ (ha := by first | exact hcnt _ _ _ hi | assumption) | refine sG (fun _ => ?_) fun _ => ?_ | refine aG ?_ | refine sH (fun _ => ?_) fun _ => ?_ | fail)
  refine cV ?_
  exact ih () trivial
 ·intro _ _
  refine aJ (by dsimp only [eT, lk, Nat.reduceBEq, cond_true, cond_false, Option.getD_some, Option.getD_none]; first | done | exact rfl) ?_; refine aE ?_
  unfold uU
  repeat' (first | refine aF ?_ | refine yc ?_ (ha := by first | exact h2 _ _ | assumption) | refine sG (fun _ => ?_) fun _ => ?_ | refine aG ?_ | refine sH (fun _ => ?_) fun _ => ?_ | fail)
  rfl
theorem aPd (h : Net c P S) : Call tab s M9 [c.v] H = some (.tup [.int .i64 0, .int .i64 0], H) := by
 have h1 := h.rchk
 have h2 := fun s H => aLt (s := s) (H := H) h
 have h3 := fun s H => aLu (s := s) (H := H) h
 unfold Config.v at *
 ((first | refine aC ?_ | skip); refine bE (cf := zU) rfl rfl rfl rfl ?_; unfold zU; dsimp only [aA, Nat.reduceAdd, Nat.zero_add])
 repeat' (first | refine aF ?_ | refine yc ?_ (ha := by first | exact h1 _ _ | exact h2 _ _ | exact h3 _ _ | assumption) | refine sG (fun _ => ?_) fun _ => ?_ | refine aG ?_ | refine sH (fun _ => ?_) fun _ => ?_ | fail)
 rfl
theorem aLw {a b : Int} : Call tab s rY [.int .i64 a, .int .i64 b] H = some (.bool (decide (0 ≤ a ∧ a < b)), H) := by
 ((first | refine aC ?_ | skip); refine bE (cf := I3) rfl rfl rfl rfl ?_; unfold I3; dsimp only [aA, Nat.reduceAdd, Nat.zero_add])
 repeat' (first | refine aF ?_ | refine yc ?_ | refine sG (fun _ => ?_) fun _ => ?_ | refine aG ?_ | refine sH (fun _ => ?_) fun _ => ?_ | fail)
 all_goals first | (with_reducible rfl) | (simp only [Option.some.injEq, Prod.mk.injEq, V.bool.injEq, V.tup.injEq, V.int.injEq, List.cons.injEq, and_true, true_and]; first | done | (rw [Bool.eq_iff_iff]; simp only [decide_eq_true_eq, Bool.false_eq_true, Bool.true_eq_false, false_iff, iff_false, true_iff, iff_true, Bool.not_eq_true, decide_eq_false_iff_not, Bool.and_eq_true, Bool.or_eq_true]; omega) | omega)
theorem aLx (h : Net c P S) {p : Int} : Call tab s Z8 [c.v, .int .i64 p] H = some (.bool (decide (0 ≤ p ∧ p < c.parts.length)), H) := by
 have h1 := fun s H => aPd (s := s) (H := H) h
 unfold Config.v at *
 ((first | refine aC ?_ | skip); refine bE (cf := v9) rfl rfl rfl rfl ?_; unfold v9; dsimp only [aA, Nat.reduceAdd, Nat.zero_add])
 repeat' (first | refine aF ?_ | refine yc ?_ (ha := by first | exact h1 _ _ | exact aLw | assumption) | refine sG (fun _ => ?_) fun _ => ?_ | refine aG ?_ | refine sH (fun _ => ?_) fun _ => ?_ | fail)
 rfl
theorem aI4 (h : Net c P S) {p : Int} : Call tab s qL [c.v, .int .i64 p] H = some (.bool (decide (0 ≤ p ∧ p < c.parts.length)), H) := by
 have h1 := h.rchk
 unfold Config.v at *
 ((first | refine aC ?_ | skip); refine bE (cf := qD) rfl rfl rfl rfl ?_; unfold qD; dsimp only [aA, Nat.reduceAdd, Nat.zero_add])
 repeat' (first | refine aF ?_ | refine yc ?_ (ha := by first | exact h1 _ _ | exact aLw | assumption) | refine sG (fun _ => ?_) fun _ => ?_ | refine aG ?_ | refine sH (fun _ => ?_) fun _ => ?_ | fail)
 rfl
end
end Go.Abs
