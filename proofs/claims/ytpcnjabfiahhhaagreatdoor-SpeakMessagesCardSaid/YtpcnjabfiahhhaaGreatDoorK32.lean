/- A part of the proof of RowSpeakOffers, RowSpeakMessages: lemmas alone, without conditions. -/
import Derived.Test.YtpcnjabfiahhhaaGreatDoorK31
set_option linter.all false
namespace Go.Abs
open Go.Proofs.YtpcnjabfiahhhaaGreatDoor
attribute [local irreducible] enL R RR fP fB pX fK fQ pU apply fT gQ bW bZ eJ bR iL bG bD eC cR kD dO V.rb V.rbL
section
variable {c : Config} {P : Nat → List Port} {S : Nat → List Slot} {s : Option Nat} {H : aC}
theorem aDs (h : Net c P S) : Call tab s nA [c.v] H = some (.int .i64 (edgeC c), H) := by
 have h1 := h.eb; have h4 := h.m1; have h5 := h.m2; have h9 := h.dr
 have w1 : IntKind.i64.wrap (2 * c.drift * c.cycle) = 2 * c.drift * c.cycle := IntWalk.i64_in _ (by omega)
 have w3 : IntKind.i64.wrap (uT (2 * c.drift * c.cycle) 1000000 + 1) = edgeC c := IntWalk.i64_in _ (by have : edgeC c = uT (2 * c.drift * c.cycle) 1000000 + 1 := rfl; omega)
 unfold Config.v
 ((first | refine aJ ?_ | skip); refine bX (cf := nC) rfl rfl rfl rfl ?_; unfold nC; dsimp only [aB, Nat.reduceAdd, Nat.zero_add])
 repeat' (first | refine aS ?_ | refine yc ?_ (ha := by first | exact aL0 (by omega) | assumption) | (show zn; refine aA ?_ (ha := by first | exact aL0 (by omega) | assumption)) | (show gA; first | refine aH (fun _ => ?_) fun _ => ?_ | refine gc_E (fun _ => ?_) fun _ => ?_ | refine gc_N (fun _ => ?_) fun _ => ?_ | refine aT ?_ | refine gc_B (fun _ => ?_) fun _ => ?_) | fail)
 rfl
theorem aSd (h : Net c P S) : Call tab s G7 [c.v] H = some (.int .i64 (j0 c), H) := by
 have h4 := h.m1
 have w2 : IntKind.i64.wrap (c.drift * c.cycle) = c.drift * c.cycle := IntWalk.i64_in _ (by omega)
 unfold Config.v
 ((first | refine aJ ?_ | skip); refine bX (cf := tU) rfl rfl rfl rfl ?_; unfold tU; dsimp only [aB, Nat.reduceAdd, Nat.zero_add])
 repeat' (first | refine aS ?_ | refine yc ?_ (ha := by first | exact aL0 (by omega) | assumption) | (show zn; refine aA ?_ (ha := by first | exact aL0 (by omega) | assumption)) | (show gA; first | refine aH (fun _ => ?_) fun _ => ?_ | refine gc_E (fun _ => ?_) fun _ => ?_ | refine gc_N (fun _ => ?_) fun _ => ?_ | refine aT ?_ | refine gc_B (fun _ => ?_) fun _ => ?_) | fail)
 rfl
theorem aSe (h : Net c P S) : Call tab s G5 [c.v] H = some (.int .i64 (oH c), H) := by
 have h1 := fun s H => aDs (s := s) (H := H) h
 have h2 := fun s H => aSd (s := s) (H := H) h
 have h3 := h.eb; have h4 := h.sb
 have w4 : IntKind.i64.wrap (4 * edgeC c + 2 * j0 c + 2) = oH c := by rw [IntWalk.i64_in _ (by omega)]; unfold oH; omega
 unfold Config.v at *
 ((first | refine aJ ?_ | skip); refine bX (cf := tS) rfl rfl rfl rfl ?_; unfold tS; dsimp only [aB, Nat.reduceAdd, Nat.zero_add])
 repeat' (first | refine aS ?_ | refine yc ?_ (ha := by first | exact h1 _ _ | exact h2 _ _ | assumption) | (show zn; refine aA ?_ (ha := by first | exact h1 _ _ | exact h2 _ _ | assumption)) | (show gA; first | refine aH (fun _ => ?_) fun _ => ?_ | refine gc_E (fun _ => ?_) fun _ => ?_ | refine gc_N (fun _ => ?_) fun _ => ?_ | refine aT ?_ | refine gc_B (fun _ => ?_) fun _ => ?_) | fail)
 rfl
theorem aSf (h : Net c P S) : Call tab s G3 [c.v] H = some (.int .i64 (y8 c), H) := by
 have h1 := fun s H => aDs (s := s) (H := H) h
 have h2 := fun s H => aSe (s := s) (H := H) h
 have h3 := h.eb; have hj := h.jb; have h6 := h.pb; have h7 := h.pl; have h8 := h.n1; have hd := h.lo; have ha := h.ag
 have w5 : IntKind.i64.wrap (2 * c.ages * oH c) = 2 * c.ages * oH c := IntWalk.i64_in _ (by omega)
 have w6 : IntKind.i64.wrap (2 * c.ages * oH c + 4 * edgeC c) = y8 c := by rw [IntWalk.i64_in _ (by omega)]; unfold y8; omega
 unfold Config.v at *
 ((first | refine aJ ?_ | skip); refine bX (cf := tH) rfl rfl rfl rfl ?_; unfold tH; dsimp only [aB, Nat.reduceAdd, Nat.zero_add])
 repeat' (first | refine aS ?_ | refine yc ?_ (ha := by first | exact h1 _ _ | exact h2 _ _ | assumption) | (show zn; refine aA ?_ (ha := by first | exact h1 _ _ | exact h2 _ _ | assumption)) | (show gA; first | refine aH (fun _ => ?_) fun _ => ?_ | refine gc_E (fun _ => ?_) fun _ => ?_ | refine gc_N (fun _ => ?_) fun _ => ?_ | refine aT ?_ | refine gc_B (fun _ => ?_) fun _ => ?_) | fail)
 rfl
theorem aWw (h : Net c P S) : Call tab s vV [c.v] H = some (.int .i64 0, H) := by
 have h1 := h.cy; have h2 := h.dr; have h3 := h.rt; have h4 := h.ag; have h5 := h.lo; have h6 := h.pb; have h7 := h.pl; have h8 := h.n1
 unfold Config.v
 ((first | refine aJ ?_ | skip); refine bX (cf := oX) rfl rfl rfl rfl ?_; unfold oX; dsimp only [aB, Nat.reduceAdd, Nat.zero_add])
 repeat' (first | refine aS ?_ | refine yc ?_ | (show zn; refine aA ?_) | (show gA; first | refine aH (fun _ => ?_) fun _ => ?_ | refine gc_E (fun _ => ?_) fun _ => ?_ | refine gc_N (fun _ => ?_) fun _ => ?_ | refine aT ?_ | refine gc_B (fun _ => ?_) fun _ => ?_) | fail)
 rfl
set_option maxHeartbeats 2000000 in
theorem aOl (h : Net c P S) : Call tab s F6 [c.v] H = some (.int .i64 0, H) := by
 have h1 := fun s H => aDs (s := s) (H := H) h
 have h2 := fun s H => aSf (s := s) (H := H) h
 have hcnt := h.rcnt; have hro := h.room
 have hw := h.wi; have hl := h.ld; have hs := h.sl; have he := h.eb; have hc := h.cy; have hr := h.rt; have hj := h.jb
 have hp := h.pb; have hq := h.pl; have hn := h.n1; have hlo := h.lo; have hag := h.ag; have hli := h.li; have hsp := h.sp; have hrm := h.rm
 have hjj : y8 c = 2 * c.ages * oH c + 2 * (2 * edgeC c) := rfl
 have e1 : c.rate * c.cycle = 300000 * c.cycle := by rw [hr]
 have w1 : IntKind.i64.wrap (c.rate * c.cycle) = 300000 * c.cycle := by rw [e1]; exact IntWalk.i64_in _ (by omega)
 have w2 : IntKind.i64.wrap ((c.parts.length : Int) * (c.lost + 1)) = (c.parts.length : Int) * (c.lost + 1) := IntWalk.i64_in _ (by omega)
 have w3 : IntKind.i64.wrap (((c.parts.length : Int) - 1) * (c.lost + 1)) = ((c.parts.length : Int) - 1) * (c.lost + 1) := IntWalk.i64_in _ (by omega)
 have hps := n9 (a := (c.parts.length : Int)) (b := c.span) (m := 4) (n := 12) (by omega) (by omega)
 have w4 : IntKind.i64.wrap ((c.parts.length : Int) * c.span) = (c.parts.length : Int) * c.span := IntWalk.i64_in _ (by omega)
 unfold Config.v at *
 ((first | refine aJ ?_ | skip); refine bX (cf := tM) rfl rfl rfl rfl ?_; unfold tM; dsimp only [aB, Nat.reduceAdd, Nat.zero_add])
 repeat' (first | refine aS ?_ | refine yc ?_ (ha := by first | exact h1 _ _ | assumption) | (show zn; refine aA ?_ (ha := by first | exact h1 _ _ | assumption)) | (show gA; first | refine aH (fun _ => ?_) fun _ => ?_ | refine gc_E (fun _ => ?_) fun _ => ?_ | refine gc_N (fun _ => ?_) fun _ => ?_ | refine aT ?_ | refine gc_B (fun _ => ?_) fun _ => ?_) | fail)
 refine xU c.parts.length (fun i (_ : Unit) => [(5, .int .i64 i)]) (fun _ _ => _) (fun _ _ => True) ?_ ?_ () trivial
 ·intro i _ hi _ ih
  obtain ⟨x, hx⟩ := xT hi
  have hr2 := hro i hi
  unfold aE0 at hr2
  rw [aXn hx] at hr2
  have hil : (i : Int) < (c.parts.length : Int) := by omega
  have hwi : IntKind.i64.wrap ((i : Int) + 1) = ((i + 1 : Nat) : Int) := IntWalk.i64_in _ (by omega)
  have e1 : (3 * ((P i).length : Int) + x.nodes) * c.slot = (3 * ((P i).length : Int) + x.nodes) * 100 := by rw [hs]
  have w1 : IntKind.i64.wrap ((3 * ((P i).length : Int) + x.nodes) * c.slot) = (3 * ((P i).length : Int) + x.nodes) * 100 := by rw [e1]; exact IntWalk.i64_in _ (by omega)
  refine cD (by dsimp only [pN, lk, Nat.reduceBEq, cond_true, cond_false, Option.getD_some, Option.getD_none]; first | done | exact rfl) ?_; refine aY ?_
  unfold uN
  repeat' (first | refine aS ?_ | refine yc ?_ (ha := by first | exact hcnt _ _ _ hi | assumption) | (show zn; refine aA ?_ (ha := by first | exact hcnt _ _ _ hi | assumption)) | (show gA; first | refine aH (fun _ => ?_) fun _ => ?_ | refine gc_E (fun _ => ?_) fun _ => ?_ | refine gc_N (fun _ => ?_) fun _ => ?_ | refine aT ?_ | refine gc_B (fun _ => ?_) fun _ => ?_) | fail)
  refine jQ ?_
  exact ih () trivial
 ·intro _ _
  refine cD (by dsimp only [pN, lk, Nat.reduceBEq, cond_true, cond_false, Option.getD_some, Option.getD_none]; first | done | exact rfl) ?_; refine aY ?_
  unfold uN
  repeat' (first | refine aS ?_ | refine yc ?_ (ha := by first | exact h2 _ _ | assumption) | (show zn; refine aA ?_ (ha := by first | exact h2 _ _ | assumption)) | (show gA; first | refine aH (fun _ => ?_) fun _ => ?_ | refine gc_E (fun _ => ?_) fun _ => ?_ | refine gc_N (fun _ => ?_) fun _ => ?_ | refine aT ?_ | refine gc_B (fun _ => ?_) fun _ => ?_) | fail)
  rfl
theorem aSg (h : Net c P S) : Call tab s F3 [c.v] H = some (.tup [.int .i64 0, .int .i64 0], H) := by
 have h1 := h.rchk
 have h2 := fun s H => aWw (s := s) (H := H) h
 have h3 := fun s H => aOl (s := s) (H := H) h
 unfold Config.v at *
 ((first | refine aJ ?_ | skip); refine bX (cf := tF) rfl rfl rfl rfl ?_; unfold tF; dsimp only [aB, Nat.reduceAdd, Nat.zero_add])
 repeat' (first | refine aS ?_ | refine yc ?_ (ha := by first | exact h1 _ _ | exact h2 _ _ | exact h3 _ _ | assumption) | (show zn; refine aA ?_ (ha := by first | exact h1 _ _ | exact h2 _ _ | exact h3 _ _ | assumption)) | (show gA; first | refine aH (fun _ => ?_) fun _ => ?_ | refine gc_E (fun _ => ?_) fun _ => ?_ | refine gc_N (fun _ => ?_) fun _ => ?_ | refine aT ?_ | refine gc_B (fun _ => ?_) fun _ => ?_) | fail)
 rfl
theorem aBu {a b : Int} : Call tab s rQ [.int .i64 a, .int .i64 b] H = some (.bool (decide (0 ≤ a ∧ a < b)), H) := by
 ((first | refine aJ ?_ | skip); refine bX (cf := zQ) rfl rfl rfl rfl ?_; unfold zQ; dsimp only [aB, Nat.reduceAdd, Nat.zero_add])
 repeat' (first | refine aS ?_ | refine yc ?_ | (show zn; refine aA ?_) | (show gA; first | refine aH (fun _ => ?_) fun _ => ?_ | refine gc_E (fun _ => ?_) fun _ => ?_ | refine gc_N (fun _ => ?_) fun _ => ?_ | refine aT ?_ | refine gc_B (fun _ => ?_) fun _ => ?_) | fail)
 all_goals first | (with_reducible rfl) | (simp only [Option.some.injEq, Prod.mk.injEq, V.bool.injEq, V.tup.injEq, V.int.injEq, List.cons.injEq, and_true, true_and]; first | done | (rw [Bool.eq_iff_iff]; simp only [decide_eq_true_eq, Bool.false_eq_true, Bool.true_eq_false, false_iff, iff_false, true_iff, iff_true, Bool.not_eq_true, decide_eq_false_iff_not, Bool.and_eq_true, Bool.or_eq_true]; omega) | omega)
theorem fH (h : Net c P S) {p : Int} : Call tab s k8 [c.v, .int .i64 p] H = some (.bool (decide (0 ≤ p ∧ p < c.parts.length)), H) := by
 have h1 := fun s H => aSg (s := s) (H := H) h
 unfold Config.v at *
 ((first | refine aJ ?_ | skip); refine bX (cf := wH) rfl rfl rfl rfl ?_; unfold wH; dsimp only [aB, Nat.reduceAdd, Nat.zero_add])
 repeat' (first | refine aS ?_ | refine yc ?_ (ha := by first | exact h1 _ _ | exact aBu | assumption) | (show zn; refine aA ?_ (ha := by first | exact h1 _ _ | exact aBu | assumption)) | (show gA; first | refine aH (fun _ => ?_) fun _ => ?_ | refine gc_E (fun _ => ?_) fun _ => ?_ | refine gc_N (fun _ => ?_) fun _ => ?_ | refine aT ?_ | refine gc_B (fun _ => ?_) fun _ => ?_) | fail)
 rfl
theorem aJe (h : Net c P S) {p : Int} : Call tab s pZ [c.v, .int .i64 p] H = some (.bool (decide (0 ≤ p ∧ p < c.parts.length)), H) := by
 have h1 := h.rchk
 unfold Config.v at *
 ((first | refine aJ ?_ | skip); refine bX (cf := nB) rfl rfl rfl rfl ?_; unfold nB; dsimp only [aB, Nat.reduceAdd, Nat.zero_add])
 repeat' (first | refine aS ?_ | refine yc ?_ (ha := by first | exact h1 _ _ | exact aBu | assumption) | (show zn; refine aA ?_ (ha := by first | exact h1 _ _ | exact aBu | assumption)) | (show gA; first | refine aH (fun _ => ?_) fun _ => ?_ | refine gc_E (fun _ => ?_) fun _ => ?_ | refine gc_N (fun _ => ?_) fun _ => ?_ | refine aT ?_ | refine gc_B (fun _ => ?_) fun _ => ?_) | fail)
 rfl
end
end Go.Abs
