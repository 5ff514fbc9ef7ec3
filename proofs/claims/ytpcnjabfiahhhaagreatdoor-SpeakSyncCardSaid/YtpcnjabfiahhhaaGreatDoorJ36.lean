/- A part of the proof of RowSpeakSync: lemmas alone, without conditions. -/
import Derived.Test.YtpcnjabfiahhhaaGreatDoorJ35
set_option linter.all false
namespace Go.Abs
open Go.Proofs.YtpcnjabfiahhhaaGreatDoor
attribute [local irreducible] enL R RR gT fU rC gG gU qS apply fW gZ bQ cC fB bN iN bK bG eS cV lA dU V.rb V.rbL
theorem aOq (l : List Slot) (k : Int) (f : Frame) (start ppm : Int) : ∃ (x : Say) (b : Bool), (if Spk l k f start then V.tup [(aJ5 l k f start ppm).v, .bool (decide (Tm (sM l k f.node start ppm)))] else .tup [say0.v, .bool false]) = .tup [x.v, .bool b] ∧ spk l k f start ppm = if b then .tup [x.v, .bool true] else .tup [say0.v, .bool false] := by
 by_cases h1 : Spk l k f start
 ·by_cases h2 : Tm (sM l k f.node start ppm)
  ·refine ⟨_, true, by rw [if_pos h1, decide_eq_true h2], ?_⟩
   unfold spk; rw [if_pos ⟨h1, h2⟩, if_pos rfl]
  ·refine ⟨_, false, by rw [if_pos h1, decide_eq_false h2], ?_⟩
   unfold spk; rw [if_neg (fun h => h2 h.2), if_neg (by decide)]
 ·refine ⟨say0, false, by rw [if_neg h1], ?_⟩
  unfold spk; rw [if_neg (fun h => h1 h.1), if_neg (by decide)]
theorem aZ1 {l : List Slot} {k : Int} {f : Frame} {start ppm : Int} (h1 : 0 ≤ iO l k f.node) (h2 : iU f) (h3 : Tm start) (h4 : Tm (sM l k f.node start ppm)) : spk l k f start ppm = .tup [(aJ5 l k f start ppm).v, .bool true] := by
 unfold spk; rw [if_pos ⟨⟨h1, h2, h3⟩, h4⟩]
theorem aI3 {l : List Slot} {k : Int} {f : Frame} {start ppm : Int} (h : ¬ ((0 ≤ iO l k f.node ∧ iU f ∧ Tm start) ∧ Tm (sM l k f.node start ppm))) : spk l k f start ppm = .tup [say0.v, .bool false] := by
 unfold spk; rw [if_neg (show ¬ (Spk l k f start ∧ Tm (sM l k f.node start ppm)) from h)]
set_option maxHeartbeats 2000000 in
theorem aAv {c : Config} {P : Nat → List Port} {S : Nat → List Slot} (h : NetR c P S) {s : Option Nat} {H : aB} {p : Nat} {k n start ppm : Int} {f : Frame} (hp : p < c.parts.length) (hS : (S p).length ≤ 1000) (hl : f.ages.length ≤ 1000) (hb : f.body.length ≤ 1000) :
 Call tab s jX [c.v, .int .i64 (p : Int), .int .i64 k, .int .i64 n, f.v, .int .i64 start, .int .i64 ppm] H = some (spk (S p) k (wpn f p n) start ppm, H) := by
 have hf := fun s H => aQt (s := s) (H := H) (k := k) (n := n) h hp hS
 have hsl := fun s H => h.rslt s H p hp
 have he : ∀ s H, Call tab s tE [(wpn f p n).v] H = some (aDt (wpn f p n), H) := fun s H => aT9 (f := wpn f p n) (by show f.ages.length ≤ _; omega) (by show f.body.length ≤ _; omega)
 unfold aDt at he
 by_cases h1 : 0 ≤ iO (S p) k n
 ·obtain ⟨x, hx, hxl, _⟩ := O4 h1
  by_cases h3 : Tm start
  ·have h3' : decide (Tm start) = true := decide_eq_true h3
   have ho : aEx (S p) (iO (S p) k n) = x.off := by unfold aEx; rw [List.getD_eq_getElem?_getD, hx]; rfl
   have hat : sM (S p) k n start ppm = IntKind.i64.wrap (start + real x.off ppm) := by unfold sM; rw [ho]
   have hxe : aJ5 (S p) k (wpn f p n) start ppm = ⟨iO (S p) k n, wT (aB1 (wpn f p n)), IntKind.i64.wrap (start + real x.off ppm)⟩ := by rw [← hat]; rfl
   by_cases h2 : iU (wpn f p n)
   ·rw [if_pos h2] at he
    by_cases h4 : Tm (IntKind.i64.wrap (start + real x.off ppm))
    ·rw [aZ1 (f := wpn f p n) h1 h2 h3 (by show Tm (sM (S p) k n start ppm); rw [hat]; exact h4), hxe]
     have h4' : decide (Tm (IntKind.i64.wrap (start + real x.off ppm))) = true := decide_eq_true h4
     unfold Frame.v wpn at he
     unfold Config.v Frame.v Say.v wpn at *
     ((first | refine aJ ?_ | skip); refine cB (cf := cO) rfl rfl rfl rfl ?_; unfold cO; dsimp only [aC, Nat.reduceAdd, Nat.zero_add])
     repeat' (first | refine aS ?_ | refine yc ?_ (ha := by first | exact hf _ _ | exact he _ _ | exact bR | exact yF | exact hsl _ _ | assumption) | (show zn; refine aA ?_ (ha := by first | exact hf _ _ | exact he _ _ | exact bR | exact yF | exact hsl _ _ | assumption)) | (show gA; first | refine aH (fun _ => ?_) fun _ => ?_ | refine gc_E (fun _ => ?_) fun _ => ?_ | refine gc_N (fun _ => ?_) fun _ => ?_ | refine aT ?_ | refine gc_B (fun _ => ?_) fun _ => ?_) | fail)
     rfl
    ·rw [aI3 (fun h => h4 (by have := h.2; rw [← hat]; exact this))]
     have h4' : decide (Tm (IntKind.i64.wrap (start + real x.off ppm))) = false := decide_eq_false h4
     unfold Frame.v wpn at he
     unfold Config.v Frame.v Say.v say0 wpn at *
     ((first | refine aJ ?_ | skip); refine cB (cf := cO) rfl rfl rfl rfl ?_; unfold cO; dsimp only [aC, Nat.reduceAdd, Nat.zero_add])
     repeat' (first | refine aS ?_ | refine yc ?_ (ha := by first | exact hf _ _ | exact he _ _ | exact bR | exact yF | exact hsl _ _ | assumption) | (show zn; refine aA ?_ (ha := by first | exact hf _ _ | exact he _ _ | exact bR | exact yF | exact hsl _ _ | assumption)) | (show gA; first | refine aH (fun _ => ?_) fun _ => ?_ | refine gc_E (fun _ => ?_) fun _ => ?_ | refine gc_N (fun _ => ?_) fun _ => ?_ | refine aT ?_ | refine gc_B (fun _ => ?_) fun _ => ?_) | fail)
     simp only [bJ, List.length_nil]
   ·rw [if_neg h2] at he
    rw [aI3 (fun h => h2 h.1.2.1)]
    unfold Frame.v wpn at he
    unfold Config.v Frame.v Say.v say0 wpn at *
    ((first | refine aJ ?_ | skip); refine cB (cf := cO) rfl rfl rfl rfl ?_; unfold cO; dsimp only [aC, Nat.reduceAdd, Nat.zero_add])
    repeat' (first | refine aS ?_ | refine yc ?_ (ha := by first | exact hf _ _ | exact he _ _ | exact bR | exact yF | exact hsl _ _ | assumption) | (show zn; refine aA ?_ (ha := by first | exact hf _ _ | exact he _ _ | exact bR | exact yF | exact hsl _ _ | assumption)) | (show gA; first | refine aH (fun _ => ?_) fun _ => ?_ | refine gc_E (fun _ => ?_) fun _ => ?_ | refine gc_N (fun _ => ?_) fun _ => ?_ | refine aT ?_ | refine gc_B (fun _ => ?_) fun _ => ?_) | fail)
    simp only [bJ, List.length_nil]
  ·rw [aI3 (fun h => h3 h.1.2.2)]
   have h3' : decide (Tm start) = false := decide_eq_false h3
   unfold Config.v Frame.v Say.v say0 at *
   ((first | refine aJ ?_ | skip); refine cB (cf := cO) rfl rfl rfl rfl ?_; unfold cO; dsimp only [aC, Nat.reduceAdd, Nat.zero_add])
   repeat' (first | refine aS ?_ | refine yc ?_ (ha := by first | exact hf _ _ | exact bR | assumption) | (show zn; refine aA ?_ (ha := by first | exact hf _ _ | exact bR | assumption)) | (show gA; first | refine aH (fun _ => ?_) fun _ => ?_ | refine gc_E (fun _ => ?_) fun _ => ?_ | refine gc_N (fun _ => ?_) fun _ => ?_ | refine aT ?_ | refine gc_B (fun _ => ?_) fun _ => ?_) | fail)
   simp only [bJ, List.length_nil]
 ·rw [aI3 (fun h => h1 h.1.1)]
  unfold Config.v Frame.v Say.v say0 at *
  ((first | refine aJ ?_ | skip); refine cB (cf := cO) rfl rfl rfl rfl ?_; unfold cO; dsimp only [aC, Nat.reduceAdd, Nat.zero_add])
  repeat' (first | refine aS ?_ | refine yc ?_ (ha := by first | exact hf _ _ | exact bR | assumption) | (show zn; refine aA ?_ (ha := by first | exact hf _ _ | exact bR | assumption)) | (show gA; first | refine aH (fun _ => ?_) fun _ => ?_ | refine gc_E (fun _ => ?_) fun _ => ?_ | refine gc_N (fun _ => ?_) fun _ => ?_ | refine aT ?_ | refine gc_B (fun _ => ?_) fun _ => ?_) | fail)
  simp only [bJ, List.length_nil]
abbrev S6 (c : Config) (x : Node) (ppm : Int) : Prop := -c.drift ≤ x.drift ∧ x.drift ≤ c.drift ∧ -400000 ≤ ppm ∧ ppm ≤ 400000 ∧ Tm x.start
theorem aUi {c : Config} {P : Nat → List Port} {S : Nat → List Slot} {s : Option Nat} {H : aB} {p : Nat} {x : Node} {ppm : Int} (hd : 0 ≤ c.drift ∧ c.drift ≤ 140) : Call tab s z0 [(sN c P S p).v, x.v, .int .i64 ppm] H = some (.bool (decide (S6 c x ppm)), H) := by
 have w : IntKind.i64.wrap (0 - c.drift) = -c.drift := by rw [IntWalk.i64_in _ (by omega)]; omega
 unfold View.v sN Node.v
 ((first | refine aJ ?_ | skip); refine cB (cf := sH) rfl rfl rfl rfl ?_; unfold sH; dsimp only [aC, Nat.reduceAdd, Nat.zero_add])
 repeat' (first | refine aS ?_ | refine yc ?_ (ha := by first | exact jH | assumption) | (show zn; refine aA ?_ (ha := by first | exact jH | assumption)) | (show gA; first | refine aH (fun _ => ?_) fun _ => ?_ | refine gc_E (fun _ => ?_) fun _ => ?_ | refine gc_N (fun _ => ?_) fun _ => ?_ | refine aT ?_ | refine gc_B (fun _ => ?_) fun _ => ?_) | fail)
 all_goals first | (with_reducible rfl) | (simp only [Option.some.injEq, Prod.mk.injEq, V.bool.injEq, V.tup.injEq, V.int.injEq, List.cons.injEq, and_true, true_and]; first | done | (rw [Bool.eq_iff_iff]; simp only [decide_eq_true_eq, Bool.false_eq_true, Bool.true_eq_false, false_iff, iff_false, true_iff, iff_true, Bool.not_eq_true, decide_eq_false_iff_not, Bool.and_eq_true, Bool.or_eq_true]; omega) | omega)
theorem aR2 {c : Config} {P : Nat → List Port} {S : Nat → List Slot} (h : Net c P S) {s : Option Nat} {H : aB} {p : Int} {x : Node} {ppm : Int} : Call tab s y7 [c.v, .int .i64 p, x.v, .int .i64 ppm] H = some (.bool (decide ((0 ≤ p ∧ p < c.parts.length) ∧ S6 c x ppm)), H) := by
 have hd := h.dr
 have hf := fun s H => eG (s := s) (H := H) h (p := p)
 have w : IntKind.i64.wrap (0 - c.drift) = -c.drift := by rw [IntWalk.i64_in _ (by omega)]; omega
 by_cases hp : 0 ≤ p ∧ p < c.parts.length
 ·have hp' : decide (0 ≤ p ∧ p < c.parts.length) = true := decide_eq_true hp
  unfold Config.v Node.v at *
  ((first | refine aJ ?_ | skip); refine cB (cf := mO) rfl rfl rfl rfl ?_; unfold mO; dsimp only [aC, Nat.reduceAdd, Nat.zero_add])
  repeat' (first | refine aS ?_ | refine yc ?_ (ha := by first | exact hf _ _ | exact bR | assumption) | (show zn; refine aA ?_ (ha := by first | exact hf _ _ | exact bR | assumption)) | (show gA; first | refine aH (fun _ => ?_) fun _ => ?_ | refine gc_E (fun _ => ?_) fun _ => ?_ | refine gc_N (fun _ => ?_) fun _ => ?_ | refine aT ?_ | refine gc_B (fun _ => ?_) fun _ => ?_) | fail)
  all_goals first | (with_reducible rfl) | (simp only [Option.some.injEq, Prod.mk.injEq, V.bool.injEq, V.tup.injEq, V.int.injEq, List.cons.injEq, and_true, true_and]; first | done | (rw [Bool.eq_iff_iff]; simp only [decide_eq_true_eq, Bool.false_eq_true, Bool.true_eq_false, false_iff, iff_false, true_iff, iff_true, Bool.not_eq_true, decide_eq_false_iff_not, Bool.and_eq_true, Bool.or_eq_true]; omega) | omega)
 ·have hp' : decide (0 ≤ p ∧ p < c.parts.length) = false := decide_eq_false hp
  rw [decide_eq_false (fun k => hp k.1)]
  unfold Config.v Node.v at *
  ((first | refine aJ ?_ | skip); refine cB (cf := mO) rfl rfl rfl rfl ?_; unfold mO; dsimp only [aC, Nat.reduceAdd, Nat.zero_add])
  repeat' (first | refine aS ?_ | refine yc ?_ (ha := by first | exact hf _ _ | exact bR | assumption) | (show zn; refine aA ?_ (ha := by first | exact hf _ _ | exact bR | assumption)) | (show gA; first | refine aH (fun _ => ?_) fun _ => ?_ | refine gc_E (fun _ => ?_) fun _ => ?_ | refine gc_N (fun _ => ?_) fun _ => ?_ | refine aT ?_ | refine gc_B (fun _ => ?_) fun _ => ?_) | fail)
  all_goals rfl
end Go.Abs
