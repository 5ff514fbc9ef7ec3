/- A part of the proof of RowSpeakOffers, RowSpeakMessages: lemmas alone, without conditions. -/
import Derived.Test.YtpcnjabfiahhhaaGreatDoorK35
set_option linter.all false
namespace Go.Abs
open Go.Proofs.YtpcnjabfiahhhaaGreatDoor
attribute [local irreducible] enL R RR fP fB pX fK fQ pU apply fT gQ bW bZ eJ bR iL bG bD eC cR kD dO V.rb V.rbL
theorem aU7 (l : List Slot) (k : Int) (f : Frame) (start ppm : Int) : ∃ (x : Say) (b : Bool), (if Spk l k f start then V.tup [(W7 l k f start ppm).v, .bool (decide (Tm (qL l k f.node start ppm)))] else .tup [say0.v, .bool false]) = .tup [x.v, .bool b] ∧ spk l k f start ppm = if b then .tup [x.v, .bool true] else .tup [say0.v, .bool false] := by
 by_cases h1 : Spk l k f start
 ·by_cases h2 : Tm (qL l k f.node start ppm)
  ·refine ⟨_, true, by rw [if_pos h1, decide_eq_true h2], ?_⟩
   unfold spk; rw [if_pos ⟨h1, h2⟩, if_pos rfl]
  ·refine ⟨_, false, by rw [if_pos h1, decide_eq_false h2], ?_⟩
   unfold spk; rw [if_neg (fun h => h2 h.2), if_neg (by decide)]
 ·refine ⟨say0, false, by rw [if_neg h1], ?_⟩
  unfold spk; rw [if_neg (fun h => h1 h.1), if_neg (by decide)]
theorem aXp {l : List Slot} {k : Int} {f : Frame} {start ppm : Int} (h1 : 0 ≤ jH l k f.node) (h2 : jR f) (h3 : Tm start) (h4 : Tm (qL l k f.node start ppm)) : spk l k f start ppm = .tup [(W7 l k f start ppm).v, .bool true] := by
 unfold spk; rw [if_pos ⟨⟨h1, h2, h3⟩, h4⟩]
theorem aIh {l : List Slot} {k : Int} {f : Frame} {start ppm : Int} (h : ¬ ((0 ≤ jH l k f.node ∧ jR f ∧ Tm start) ∧ Tm (qL l k f.node start ppm))) : spk l k f start ppm = .tup [say0.v, .bool false] := by
 unfold spk; rw [if_neg (show ¬ (Spk l k f start ∧ Tm (qL l k f.node start ppm)) from h)]
set_option maxHeartbeats 2000000 in
theorem uU {c : Config} {P : Nat → List Port} {S : Nat → List Slot} (h : NetR c P S) {s : Option Nat} {H : aC} {p : Nat} {k n start ppm : Int} {f : Frame} (hp : p < c.parts.length) (hS : (S p).length ≤ 1000) (hl : f.ages.length ≤ 1000) (hb : f.body.length ≤ 1000) :
 Call tab s dX [c.v, .int .i64 (p : Int), .int .i64 k, .int .i64 n, f.v, .int .i64 start, .int .i64 ppm] H = some (spk (S p) k (wpn f p n) start ppm, H) := by
 have hf := fun s H => aQw (s := s) (H := H) (k := k) (n := n) h hp hS
 have hsl := fun s H => h.rslt s H p hp
 have he : ∀ s H, Call tab s uH [(wpn f p n).v] H = some (aFk (wpn f p n), H) := fun s H => aW3 (f := wpn f p n) (by show f.ages.length ≤ _; omega) (by show f.body.length ≤ _; omega)
 unfold aFk at he
 by_cases h1 : 0 ≤ jH (S p) k n
 ·obtain ⟨x, hx, hxl, _⟩ := W6 h1
  by_cases h3 : Tm start
  ·have h3' : decide (Tm start) = true := decide_eq_true h3
   have ho : aGv (S p) (jH (S p) k n) = x.off := by unfold aGv; rw [List.getD_eq_getElem?_getD, hx]; rfl
   have hat : qL (S p) k n start ppm = IntKind.i64.wrap (start + real x.off ppm) := by unfold qL; rw [ho]
   have hxe : W7 (S p) k (wpn f p n) start ppm = ⟨jH (S p) k n, yR (aDu (wpn f p n)), IntKind.i64.wrap (start + real x.off ppm)⟩ := by rw [← hat]; rfl
   by_cases h2 : jR (wpn f p n)
   ·rw [if_pos h2] at he
    by_cases h4 : Tm (IntKind.i64.wrap (start + real x.off ppm))
    ·rw [aXp (f := wpn f p n) h1 h2 h3 (by show Tm (qL (S p) k n start ppm); rw [hat]; exact h4), hxe]
     have h4' : decide (Tm (IntKind.i64.wrap (start + real x.off ppm))) = true := decide_eq_true h4
     unfold Frame.v wpn at he
     unfold Config.v Frame.v Say.v wpn at *
     ((first | refine aJ ?_ | skip); refine bX (cf := cV) rfl rfl rfl rfl ?_; unfold cV; dsimp only [aB, Nat.reduceAdd, Nat.zero_add])
     repeat' (first | refine aS ?_ | refine yc ?_ (ha := by first | exact hf _ _ | exact he _ _ | exact bH | exact zK | exact hsl _ _ | assumption) | (show zn; refine aA ?_ (ha := by first | exact hf _ _ | exact he _ _ | exact bH | exact zK | exact hsl _ _ | assumption)) | (show gA; first | refine aH (fun _ => ?_) fun _ => ?_ | refine gc_E (fun _ => ?_) fun _ => ?_ | refine gc_N (fun _ => ?_) fun _ => ?_ | refine aT ?_ | refine gc_B (fun _ => ?_) fun _ => ?_) | fail)
     rfl
    ·rw [aIh (fun h => h4 (by have := h.2; rw [← hat]; exact this))]
     have h4' : decide (Tm (IntKind.i64.wrap (start + real x.off ppm))) = false := decide_eq_false h4
     unfold Frame.v wpn at he
     unfold Config.v Frame.v Say.v say0 wpn at *
     ((first | refine aJ ?_ | skip); refine bX (cf := cV) rfl rfl rfl rfl ?_; unfold cV; dsimp only [aB, Nat.reduceAdd, Nat.zero_add])
     repeat' (first | refine aS ?_ | refine yc ?_ (ha := by first | exact hf _ _ | exact he _ _ | exact bH | exact zK | exact hsl _ _ | assumption) | (show zn; refine aA ?_ (ha := by first | exact hf _ _ | exact he _ _ | exact bH | exact zK | exact hsl _ _ | assumption)) | (show gA; first | refine aH (fun _ => ?_) fun _ => ?_ | refine gc_E (fun _ => ?_) fun _ => ?_ | refine gc_N (fun _ => ?_) fun _ => ?_ | refine aT ?_ | refine gc_B (fun _ => ?_) fun _ => ?_) | fail)
     simp only [aO, List.length_nil]
   ·rw [if_neg h2] at he
    rw [aIh (fun h => h2 h.1.2.1)]
    unfold Frame.v wpn at he
    unfold Config.v Frame.v Say.v say0 wpn at *
    ((first | refine aJ ?_ | skip); refine bX (cf := cV) rfl rfl rfl rfl ?_; unfold cV; dsimp only [aB, Nat.reduceAdd, Nat.zero_add])
    repeat' (first | refine aS ?_ | refine yc ?_ (ha := by first | exact hf _ _ | exact he _ _ | exact bH | exact zK | exact hsl _ _ | assumption) | (show zn; refine aA ?_ (ha := by first | exact hf _ _ | exact he _ _ | exact bH | exact zK | exact hsl _ _ | assumption)) | (show gA; first | refine aH (fun _ => ?_) fun _ => ?_ | refine gc_E (fun _ => ?_) fun _ => ?_ | refine gc_N (fun _ => ?_) fun _ => ?_ | refine aT ?_ | refine gc_B (fun _ => ?_) fun _ => ?_) | fail)
    simp only [aO, List.length_nil]
  ·rw [aIh (fun h => h3 h.1.2.2)]
   have h3' : decide (Tm start) = false := decide_eq_false h3
   unfold Config.v Frame.v Say.v say0 at *
   ((first | refine aJ ?_ | skip); refine bX (cf := cV) rfl rfl rfl rfl ?_; unfold cV; dsimp only [aB, Nat.reduceAdd, Nat.zero_add])
   repeat' (first | refine aS ?_ | refine yc ?_ (ha := by first | exact hf _ _ | exact bH | assumption) | (show zn; refine aA ?_ (ha := by first | exact hf _ _ | exact bH | assumption)) | (show gA; first | refine aH (fun _ => ?_) fun _ => ?_ | refine gc_E (fun _ => ?_) fun _ => ?_ | refine gc_N (fun _ => ?_) fun _ => ?_ | refine aT ?_ | refine gc_B (fun _ => ?_) fun _ => ?_) | fail)
   simp only [aO, List.length_nil]
 ·rw [aIh (fun h => h1 h.1.1)]
  unfold Config.v Frame.v Say.v say0 at *
  ((first | refine aJ ?_ | skip); refine bX (cf := cV) rfl rfl rfl rfl ?_; unfold cV; dsimp only [aB, Nat.reduceAdd, Nat.zero_add])
  repeat' (first | refine aS ?_ | refine yc ?_ (ha := by first | exact hf _ _ | exact bH | assumption) | (show zn; refine aA ?_ (ha := by first | exact hf _ _ | exact bH | assumption)) | (show gA; first | refine aH (fun _ => ?_) fun _ => ?_ | refine gc_E (fun _ => ?_) fun _ => ?_ | refine gc_N (fun _ => ?_) fun _ => ?_ | refine aT ?_ | refine gc_B (fun _ => ?_) fun _ => ?_) | fail)
  simp only [aO, List.length_nil]
abbrev c8 (c : Config) (x : Node) (ppm : Int) : Prop := -c.drift ≤ x.drift ∧ x.drift ≤ c.drift ∧ -400000 ≤ ppm ∧ ppm ≤ 400000 ∧ Tm x.start
theorem aLm {c : Config} {P : Nat → List Port} {S : Nat → List Slot} {s : Option Nat} {H : aC} {p : Nat} {x : Node} {ppm : Int} (hd : 0 ≤ c.drift ∧ c.drift ≤ 140) : Call tab s sV [(dW c P S p).v, x.v, .int .i64 ppm] H = some (.bool (decide (c8 c x ppm)), H) := by
 have w : IntKind.i64.wrap (0 - c.drift) = -c.drift := by rw [IntWalk.i64_in _ (by omega)]; omega
 unfold View.v dW Node.v
 ((first | refine aJ ?_ | skip); refine bX (cf := tC) rfl rfl rfl rfl ?_; unfold tC; dsimp only [aB, Nat.reduceAdd, Nat.zero_add])
 repeat' (first | refine aS ?_ | refine yc ?_ (ha := by first | exact dH | assumption) | (show zn; refine aA ?_ (ha := by first | exact dH | assumption)) | (show gA; first | refine aH (fun _ => ?_) fun _ => ?_ | refine gc_E (fun _ => ?_) fun _ => ?_ | refine gc_N (fun _ => ?_) fun _ => ?_ | refine aT ?_ | refine gc_B (fun _ => ?_) fun _ => ?_) | fail)
 all_goals first | (with_reducible rfl) | (simp only [Option.some.injEq, Prod.mk.injEq, V.bool.injEq, V.tup.injEq, V.int.injEq, List.cons.injEq, and_true, true_and]; first | done | (rw [Bool.eq_iff_iff]; simp only [decide_eq_true_eq, Bool.false_eq_true, Bool.true_eq_false, false_iff, iff_false, true_iff, iff_true, Bool.not_eq_true, decide_eq_false_iff_not, Bool.and_eq_true, Bool.or_eq_true]; omega) | omega)
theorem aIi {c : Config} {P : Nat → List Port} {S : Nat → List Slot} (h : Net c P S) {s : Option Nat} {H : aC} {p : Int} {x : Node} {ppm : Int} : Call tab s yD [c.v, .int .i64 p, x.v, .int .i64 ppm] H = some (.bool (decide ((0 ≤ p ∧ p < c.parts.length) ∧ c8 c x ppm)), H) := by
 have hd := h.dr
 have hf := fun s H => fH (s := s) (H := H) h (p := p)
 have w : IntKind.i64.wrap (0 - c.drift) = -c.drift := by rw [IntWalk.i64_in _ (by omega)]; omega
 by_cases hp : 0 ≤ p ∧ p < c.parts.length
 ·have hp' : decide (0 ≤ p ∧ p < c.parts.length) = true := decide_eq_true hp
  unfold Config.v Node.v at *
  ((first | refine aJ ?_ | skip); refine bX (cf := nJ) rfl rfl rfl rfl ?_; unfold nJ; dsimp only [aB, Nat.reduceAdd, Nat.zero_add])
  repeat' (first | refine aS ?_ | refine yc ?_ (ha := by first | exact hf _ _ | exact bH | assumption) | (show zn; refine aA ?_ (ha := by first | exact hf _ _ | exact bH | assumption)) | (show gA; first | refine aH (fun _ => ?_) fun _ => ?_ | refine gc_E (fun _ => ?_) fun _ => ?_ | refine gc_N (fun _ => ?_) fun _ => ?_ | refine aT ?_ | refine gc_B (fun _ => ?_) fun _ => ?_) | fail)
  all_goals first | (with_reducible rfl) | (simp only [Option.some.injEq, Prod.mk.injEq, V.bool.injEq, V.tup.injEq, V.int.injEq, List.cons.injEq, and_true, true_and]; first | done | (rw [Bool.eq_iff_iff]; simp only [decide_eq_true_eq, Bool.false_eq_true, Bool.true_eq_false, false_iff, iff_false, true_iff, iff_true, Bool.not_eq_true, decide_eq_false_iff_not, Bool.and_eq_true, Bool.or_eq_true]; omega) | omega)
 ·have hp' : decide (0 ≤ p ∧ p < c.parts.length) = false := decide_eq_false hp
  rw [decide_eq_false (fun k => hp k.1)]
  unfold Config.v Node.v at *
  ((first | refine aJ ?_ | skip); refine bX (cf := nJ) rfl rfl rfl rfl ?_; unfold nJ; dsimp only [aB, Nat.reduceAdd, Nat.zero_add])
  repeat' (first | refine aS ?_ | refine yc ?_ (ha := by first | exact hf _ _ | exact bH | assumption) | (show zn; refine aA ?_ (ha := by first | exact hf _ _ | exact bH | assumption)) | (show gA; first | refine aH (fun _ => ?_) fun _ => ?_ | refine gc_E (fun _ => ?_) fun _ => ?_ | refine gc_N (fun _ => ?_) fun _ => ?_ | refine aT ?_ | refine gc_B (fun _ => ?_) fun _ => ?_) | fail)
  all_goals rfl
end Go.Abs
