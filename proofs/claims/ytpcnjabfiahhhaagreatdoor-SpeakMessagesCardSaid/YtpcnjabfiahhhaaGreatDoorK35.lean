/- A part of the proof of RowSpeakOffers, RowSpeakMessages: lemmas alone, without conditions. -/
import Derived.Test.YtpcnjabfiahhhaaGreatDoorK34
set_option linter.all false
namespace Go.Abs
open Go.Proofs.YtpcnjabfiahhhaaGreatDoor
attribute [local irreducible] enL R RR fP fB pX fK fQ pU apply fT gQ bW bZ eJ bR iL bG bD eC cR kD dO V.rb V.rbL
theorem aE9 {α : Type} {p : α → Bool} : ∀ {l : List α} {n : Nat}, 0 ≤ o4 p l n → ∃ x, l[(o4 p l n).toNat - n]? = some x ∧ n ≤ (o4 p l n).toNat ∧ (o4 p l n).toNat < n + l.length ∧ p x = true
 | [], n, h => by simp [o4] at h
 | x :: l, n, h => by
   cases hp : p x
   ·rw [o0 hp] at h ⊢
    obtain ⟨y, h1, h2, h3, h4⟩ := aE9 (l := l) (n := n + 1) h
    refine ⟨y, ?_, by omega, by simp only [List.length_cons]; omega, h4⟩
    rw [show (o4 p l (n + 1)).toNat - n = (o4 p l (n + 1)).toNat - (n + 1) + 1 by omega, List.getElem?_cons_succ]
    exact h1
   ·rw [c6 hp]
    exact ⟨x, by simp, by simp, by simp, hp⟩
theorem W6 {l : List Slot} {k n : Int} (h : 0 ≤ jH l k n) : ∃ x, l[(jH l k n).toNat]? = some x ∧ jH l k n < (l.length : Int) ∧ x.kind = k ∧ x.node = n := by
 obtain ⟨x, h1, h2, h3, h4⟩ := aE9 h
 unfold jH at *
 refine ⟨x, by simpa using h1, by omega, ?_⟩
 simpa [uE] using h4
def aGv (l : List Slot) (i : Int) : Int := (l.getD i.toNat default).off
def qL (l : List Slot) (k n start ppm : Int) : Int := IntKind.i64.wrap (start + real (aGv l (jH l k n)) ppm)
def W7 (l : List Slot) (k : Int) (f : Frame) (start ppm : Int) : Say := ⟨jH l k f.node, yR (aDu f), qL l k f.node start ppm⟩
def say0 : Say := ⟨0, [], 0⟩
def Spk (l : List Slot) (k : Int) (f : Frame) (start : Int) : Prop := 0 ≤ jH l k f.node ∧ jR f ∧ Tm start
instance (l : List Slot) (k : Int) (f : Frame) (start : Int) : Decidable (Spk l k f start) := inferInstanceAs (Decidable (_ ∧ _))
def spk (l : List Slot) (k : Int) (f : Frame) (start ppm : Int) : V :=
 if Spk l k f start ∧ Tm (qL l k f.node start ppm) then .tup [(W7 l k f start ppm).v, .bool true] else .tup [say0.v, .bool false]
theorem aEa {s : Option Nat} {H : aC} {x : Say} : Call tab s nQ [x.v, .bool true] H = some (.tup [x.v, .bool true], H) := by
 unfold Say.v
 ((first | refine aJ ?_ | skip); refine bX (cf := lL) rfl rfl rfl rfl ?_; unfold lL; dsimp only [aB, Nat.reduceAdd, Nat.zero_add])
 repeat' (first | refine aS ?_ | refine yc ?_ | (show zn; refine aA ?_) | (show gA; first | refine aH (fun _ => ?_) fun _ => ?_ | refine gc_E (fun _ => ?_) fun _ => ?_ | refine gc_N (fun _ => ?_) fun _ => ?_ | refine aT ?_ | refine gc_B (fun _ => ?_) fun _ => ?_) | fail)
 rfl
theorem aJj {s : Option Nat} {H : aC} {x : Say} : Call tab s nQ [x.v, .bool false] H = some (.tup [say0.v, .bool false], H) := by
 unfold Say.v say0
 ((first | refine aJ ?_ | skip); refine bX (cf := lL) rfl rfl rfl rfl ?_; unfold lL; dsimp only [aB, Nat.reduceAdd, Nat.zero_add])
 repeat' (first | refine aS ?_ | refine yc ?_ | (show zn; refine aA ?_) | (show gA; first | refine aH (fun _ => ?_) fun _ => ?_ | refine gc_E (fun _ => ?_) fun _ => ?_ | refine gc_N (fun _ => ?_) fun _ => ?_ | refine aT ?_ | refine gc_B (fun _ => ?_) fun _ => ?_) | fail)
 simp only [aO, List.length_nil]
def oN (f : Frame) (p : Int) : Frame := { f with part := p }
def wpn (f : Frame) (p n : Int) : Frame := { f with part := p, node := n }
set_option maxHeartbeats 2000000 in
theorem aQi {s : Option Nat} {H : aC} {v : View} {k start ppm : Int} {f : Frame} (hv : v.slots.length ≤ 1000) (hl : f.ages.length ≤ 1000) (hb : f.body.length ≤ 1000) :
 Call tab s dS [v.v, .int .i64 k, f.v, .int .i64 start, .int .i64 ppm] H = some (if Spk v.slots k (oN f v.part) start then .tup [(W7 v.slots k (oN f v.part) start ppm).v, .bool (decide (Tm (qL v.slots k f.node start ppm)))] else .tup [say0.v, .bool false], H) := by
 have hf := fun s H => aU2 (s := s) (H := H) (k := k) (n := f.node) hv
 have he : ∀ s H, Call tab s sD [(oN f v.part).v] H = some (aFk (oN f v.part), H) := fun s H => bA0 (f := oN f v.part) (by show f.ages.length ≤ _; omega) (by show f.body.length ≤ _; omega)
 unfold aFk at he
 by_cases h1 : 0 ≤ jH v.slots k f.node
 ·obtain ⟨x, hx, hxl, _⟩ := W6 h1
  by_cases h2 : jR (oN f v.part)
  ·rw [if_pos h2] at he
   by_cases h3 : Tm start
   ·rw [if_pos ⟨h1, h2, h3⟩]
    have h3' : decide (Tm start) = true := decide_eq_true h3
    have ho : aGv v.slots (jH v.slots k f.node) = x.off := by unfold aGv; rw [List.getD_eq_getElem?_getD, hx]; rfl
    have hat : qL v.slots k f.node start ppm = IntKind.i64.wrap (start + real x.off ppm) := by unfold qL; rw [ho]
    unfold W7
    show _ = some (V.tup [Say.v ⟨jH v.slots k f.node, yR (aDu (oN f v.part)), qL v.slots k f.node start ppm⟩, _], H)
    rw [hat]
    unfold Frame.v oN at he
    unfold View.v Frame.v Say.v oN at *
    ((first | refine aJ ?_ | skip); refine bX (cf := eE) rfl rfl rfl rfl ?_; unfold eE; dsimp only [aB, Nat.reduceAdd, Nat.zero_add])
    repeat' (first | refine aS ?_ | refine yc ?_ (ha := by first | exact hf _ _ | exact he _ _ | exact dH | exact uF | assumption) | (show zn; refine aA ?_ (ha := by first | exact hf _ _ | exact he _ _ | exact dH | exact uF | assumption)) | (show gA; first | refine aH (fun _ => ?_) fun _ => ?_ | refine gc_E (fun _ => ?_) fun _ => ?_ | refine gc_N (fun _ => ?_) fun _ => ?_ | refine aT ?_ | refine gc_B (fun _ => ?_) fun _ => ?_) | fail)
    rfl
   ·rw [if_neg (fun h => h3 h.2.2)]
    have h3' : decide (Tm start) = false := decide_eq_false h3
    unfold Frame.v oN at he
    unfold View.v Frame.v Say.v say0 oN at *
    ((first | refine aJ ?_ | skip); refine bX (cf := eE) rfl rfl rfl rfl ?_; unfold eE; dsimp only [aB, Nat.reduceAdd, Nat.zero_add])
    repeat' (first | refine aS ?_ | refine yc ?_ (ha := by first | exact hf _ _ | exact he _ _ | exact dH | exact uF | assumption) | (show zn; refine aA ?_ (ha := by first | exact hf _ _ | exact he _ _ | exact dH | exact uF | assumption)) | (show gA; first | refine aH (fun _ => ?_) fun _ => ?_ | refine gc_E (fun _ => ?_) fun _ => ?_ | refine gc_N (fun _ => ?_) fun _ => ?_ | refine aT ?_ | refine gc_B (fun _ => ?_) fun _ => ?_) | fail)
    simp only [aO, List.length_nil]
  ·rw [if_neg h2] at he
   rw [if_neg (fun h => h2 h.2.1)]
   unfold Frame.v oN at he
   unfold View.v Frame.v Say.v say0 oN at *
   ((first | refine aJ ?_ | skip); refine bX (cf := eE) rfl rfl rfl rfl ?_; unfold eE; dsimp only [aB, Nat.reduceAdd, Nat.zero_add])
   repeat' (first | refine aS ?_ | refine yc ?_ (ha := by first | exact hf _ _ | exact he _ _ | exact dH | exact uF | assumption) | (show zn; refine aA ?_ (ha := by first | exact hf _ _ | exact he _ _ | exact dH | exact uF | assumption)) | (show gA; first | refine aH (fun _ => ?_) fun _ => ?_ | refine gc_E (fun _ => ?_) fun _ => ?_ | refine gc_N (fun _ => ?_) fun _ => ?_ | refine aT ?_ | refine gc_B (fun _ => ?_) fun _ => ?_) | fail)
   simp only [aO, List.length_nil]
 ·rw [if_neg (fun h => h1 h.1)]
  by_cases h2 : jR (oN f v.part)
  ·rw [if_pos h2] at he
   unfold Frame.v oN at he
   unfold View.v Frame.v Say.v say0 oN at *
   ((first | refine aJ ?_ | skip); refine bX (cf := eE) rfl rfl rfl rfl ?_; unfold eE; dsimp only [aB, Nat.reduceAdd, Nat.zero_add])
   repeat' (first | refine aS ?_ | refine yc ?_ (ha := by first | exact hf _ _ | exact he _ _ | exact dH | exact uF | assumption) | (show zn; refine aA ?_ (ha := by first | exact hf _ _ | exact he _ _ | exact dH | exact uF | assumption)) | (show gA; first | refine aH (fun _ => ?_) fun _ => ?_ | refine gc_E (fun _ => ?_) fun _ => ?_ | refine gc_N (fun _ => ?_) fun _ => ?_ | refine aT ?_ | refine gc_B (fun _ => ?_) fun _ => ?_) | fail)
   simp only [aO, List.length_nil]
  ·rw [if_neg h2] at he
   unfold Frame.v oN at he
   unfold View.v Frame.v Say.v say0 oN at *
   ((first | refine aJ ?_ | skip); refine bX (cf := eE) rfl rfl rfl rfl ?_; unfold eE; dsimp only [aB, Nat.reduceAdd, Nat.zero_add])
   repeat' (first | refine aS ?_ | refine yc ?_ (ha := by first | exact hf _ _ | exact he _ _ | exact dH | exact uF | assumption) | (show zn; refine aA ?_ (ha := by first | exact hf _ _ | exact he _ _ | exact dH | exact uF | assumption)) | (show gA; first | refine aH (fun _ => ?_) fun _ => ?_ | refine gc_E (fun _ => ?_) fun _ => ?_ | refine gc_N (fun _ => ?_) fun _ => ?_ | refine aT ?_ | refine gc_B (fun _ => ?_) fun _ => ?_) | fail)
   simp only [aO, List.length_nil]
end Go.Abs
