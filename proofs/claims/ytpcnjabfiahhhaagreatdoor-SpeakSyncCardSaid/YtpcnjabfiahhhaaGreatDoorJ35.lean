/- A part of the proof of RowSpeakSync: lemmas alone, without conditions. -/
import Derived.Test.YtpcnjabfiahhhaaGreatDoorJ34
set_option linter.all false
namespace Go.Abs
open Go.Proofs.YtpcnjabfiahhhaaGreatDoor
attribute [local irreducible] enL R RR gT fU rC gG gU qS apply fW gZ bQ cC fB bN iN bK bG eS cV lA dU V.rb V.rbL
theorem aHx {α : Type} {p : α → Bool} : ∀ {l : List α} {n : Nat}, 0 ≤ J1 p l n → ∃ x, l[(J1 p l n).toNat - n]? = some x ∧ n ≤ (J1 p l n).toNat ∧ (J1 p l n).toNat < n + l.length ∧ p x = true
 | [], n, h => by simp [J1] at h
 | x :: l, n, h => by
   cases hp : p x
   ·rw [s7 hp] at h ⊢
    obtain ⟨y, h1, h2, h3, h4⟩ := aHx (l := l) (n := n + 1) h
    refine ⟨y, ?_, by omega, by simp only [List.length_cons]; omega, h4⟩
    rw [show (J1 p l (n + 1)).toNat - n = (J1 p l (n + 1)).toNat - (n + 1) + 1 by omega, List.getElem?_cons_succ]
    exact h1
   ·rw [j9 hp]
    exact ⟨x, by simp, by simp, by simp, hp⟩
theorem O4 {l : List Slot} {k n : Int} (h : 0 ≤ iO l k n) : ∃ x, l[(iO l k n).toNat]? = some x ∧ iO l k n < (l.length : Int) ∧ x.kind = k ∧ x.node = n := by
 obtain ⟨x, h1, h2, h3, h4⟩ := aHx h
 unfold iO at *
 refine ⟨x, by simpa using h1, by omega, ?_⟩
 simpa [tL] using h4
def aEx (l : List Slot) (i : Int) : Int := (l.getD i.toNat default).off
def sM (l : List Slot) (k n start ppm : Int) : Int := IntKind.i64.wrap (start + real (aEx l (iO l k n)) ppm)
def aJ5 (l : List Slot) (k : Int) (f : Frame) (start ppm : Int) : Say := ⟨iO l k f.node, wT (aB1 f), sM l k f.node start ppm⟩
def say0 : Say := ⟨0, [], 0⟩
def Spk (l : List Slot) (k : Int) (f : Frame) (start : Int) : Prop := 0 ≤ iO l k f.node ∧ iU f ∧ Tm start
instance (l : List Slot) (k : Int) (f : Frame) (start : Int) : Decidable (Spk l k f start) := inferInstanceAs (Decidable (_ ∧ _))
def spk (l : List Slot) (k : Int) (f : Frame) (start ppm : Int) : V :=
 if Spk l k f start ∧ Tm (sM l k f.node start ppm) then .tup [(aJ5 l k f start ppm).v, .bool true] else .tup [say0.v, .bool false]
theorem n8 {s : Option Nat} {H : aB} {x : Say} : Call tab s pP [x.v, .bool true] H = some (.tup [x.v, .bool true], H) := by
 unfold Say.v
 ((first | refine aJ ?_ | skip); refine cB (cf := kT) rfl rfl rfl rfl ?_; unfold kT; dsimp only [aC, Nat.reduceAdd, Nat.zero_add])
 repeat' (first | refine aS ?_ | refine yc ?_ | (show zn; refine aA ?_) | (show gA; first | refine aH (fun _ => ?_) fun _ => ?_ | refine gc_E (fun _ => ?_) fun _ => ?_ | refine gc_N (fun _ => ?_) fun _ => ?_ | refine aT ?_ | refine gc_B (fun _ => ?_) fun _ => ?_) | fail)
 rfl
theorem G9 {s : Option Nat} {H : aB} {x : Say} : Call tab s pP [x.v, .bool false] H = some (.tup [say0.v, .bool false], H) := by
 unfold Say.v say0
 ((first | refine aJ ?_ | skip); refine cB (cf := kT) rfl rfl rfl rfl ?_; unfold kT; dsimp only [aC, Nat.reduceAdd, Nat.zero_add])
 repeat' (first | refine aS ?_ | refine yc ?_ | (show zn; refine aA ?_) | (show gA; first | refine aH (fun _ => ?_) fun _ => ?_ | refine gc_E (fun _ => ?_) fun _ => ?_ | refine gc_N (fun _ => ?_) fun _ => ?_ | refine aT ?_ | refine gc_B (fun _ => ?_) fun _ => ?_) | fail)
 simp only [bJ, List.length_nil]
def nP (f : Frame) (p : Int) : Frame := { f with part := p }
def wpn (f : Frame) (p n : Int) : Frame := { f with part := p, node := n }
set_option maxHeartbeats 2000000 in
theorem aRm {s : Option Nat} {H : aB} {v : View} {k start ppm : Int} {f : Frame} (hv : v.slots.length ≤ 1000) (hl : f.ages.length ≤ 1000) (hb : f.body.length ≤ 1000) :
 Call tab s oV [v.v, .int .i64 k, f.v, .int .i64 start, .int .i64 ppm] H = some (if Spk v.slots k (nP f v.part) start then .tup [(aJ5 v.slots k (nP f v.part) start ppm).v, .bool (decide (Tm (sM v.slots k f.node start ppm)))] else .tup [say0.v, .bool false], H) := by
 have hf := fun s H => aU7 (s := s) (H := H) (k := k) (n := f.node) hv
 have he : ∀ s H, Call tab s qV [(nP f v.part).v] H = some (aDt (nP f v.part), H) := fun s H => aXm (f := nP f v.part) (by show f.ages.length ≤ _; omega) (by show f.body.length ≤ _; omega)
 unfold aDt at he
 by_cases h1 : 0 ≤ iO v.slots k f.node
 ·obtain ⟨x, hx, hxl, _⟩ := O4 h1
  by_cases h2 : iU (nP f v.part)
  ·rw [if_pos h2] at he
   by_cases h3 : Tm start
   ·rw [if_pos ⟨h1, h2, h3⟩]
    have h3' : decide (Tm start) = true := decide_eq_true h3
    have ho : aEx v.slots (iO v.slots k f.node) = x.off := by unfold aEx; rw [List.getD_eq_getElem?_getD, hx]; rfl
    have hat : sM v.slots k f.node start ppm = IntKind.i64.wrap (start + real x.off ppm) := by unfold sM; rw [ho]
    unfold aJ5
    show _ = some (V.tup [Say.v ⟨iO v.slots k f.node, wT (aB1 (nP f v.part)), sM v.slots k f.node start ppm⟩, _], H)
    rw [hat]
    unfold Frame.v nP at he
    unfold View.v Frame.v Say.v nP at *
    ((first | refine aJ ?_ | skip); refine cB (cf := dQ) rfl rfl rfl rfl ?_; unfold dQ; dsimp only [aC, Nat.reduceAdd, Nat.zero_add])
    repeat' (first | refine aS ?_ | refine yc ?_ (ha := by first | exact hf _ _ | exact he _ _ | exact jH | exact tK | assumption) | (show zn; refine aA ?_ (ha := by first | exact hf _ _ | exact he _ _ | exact jH | exact tK | assumption)) | (show gA; first | refine aH (fun _ => ?_) fun _ => ?_ | refine gc_E (fun _ => ?_) fun _ => ?_ | refine gc_N (fun _ => ?_) fun _ => ?_ | refine aT ?_ | refine gc_B (fun _ => ?_) fun _ => ?_) | fail)
    rfl
   ·rw [if_neg (fun h => h3 h.2.2)]
    have h3' : decide (Tm start) = false := decide_eq_false h3
    unfold Frame.v nP at he
    unfold View.v Frame.v Say.v say0 nP at *
    ((first | refine aJ ?_ | skip); refine cB (cf := dQ) rfl rfl rfl rfl ?_; unfold dQ; dsimp only [aC, Nat.reduceAdd, Nat.zero_add])
    repeat' (first | refine aS ?_ | refine yc ?_ (ha := by first | exact hf _ _ | exact he _ _ | exact jH | exact tK | assumption) | (show zn; refine aA ?_ (ha := by first | exact hf _ _ | exact he _ _ | exact jH | exact tK | assumption)) | (show gA; first | refine aH (fun _ => ?_) fun _ => ?_ | refine gc_E (fun _ => ?_) fun _ => ?_ | refine gc_N (fun _ => ?_) fun _ => ?_ | refine aT ?_ | refine gc_B (fun _ => ?_) fun _ => ?_) | fail)
    simp only [bJ, List.length_nil]
  ·rw [if_neg h2] at he
   rw [if_neg (fun h => h2 h.2.1)]
   unfold Frame.v nP at he
   unfold View.v Frame.v Say.v say0 nP at *
   ((first | refine aJ ?_ | skip); refine cB (cf := dQ) rfl rfl rfl rfl ?_; unfold dQ; dsimp only [aC, Nat.reduceAdd, Nat.zero_add])
   repeat' (first | refine aS ?_ | refine yc ?_ (ha := by first | exact hf _ _ | exact he _ _ | exact jH | exact tK | assumption) | (show zn; refine aA ?_ (ha := by first | exact hf _ _ | exact he _ _ | exact jH | exact tK | assumption)) | (show gA; first | refine aH (fun _ => ?_) fun _ => ?_ | refine gc_E (fun _ => ?_) fun _ => ?_ | refine gc_N (fun _ => ?_) fun _ => ?_ | refine aT ?_ | refine gc_B (fun _ => ?_) fun _ => ?_) | fail)
   simp only [bJ, List.length_nil]
 ·rw [if_neg (fun h => h1 h.1)]
  by_cases h2 : iU (nP f v.part)
  ·rw [if_pos h2] at he
   unfold Frame.v nP at he
   unfold View.v Frame.v Say.v say0 nP at *
   ((first | refine aJ ?_ | skip); refine cB (cf := dQ) rfl rfl rfl rfl ?_; unfold dQ; dsimp only [aC, Nat.reduceAdd, Nat.zero_add])
   repeat' (first | refine aS ?_ | refine yc ?_ (ha := by first | exact hf _ _ | exact he _ _ | exact jH | exact tK | assumption) | (show zn; refine aA ?_ (ha := by first | exact hf _ _ | exact he _ _ | exact jH | exact tK | assumption)) | (show gA; first | refine aH (fun _ => ?_) fun _ => ?_ | refine gc_E (fun _ => ?_) fun _ => ?_ | refine gc_N (fun _ => ?_) fun _ => ?_ | refine aT ?_ | refine gc_B (fun _ => ?_) fun _ => ?_) | fail)
   simp only [bJ, List.length_nil]
  ·rw [if_neg h2] at he
   unfold Frame.v nP at he
   unfold View.v Frame.v Say.v say0 nP at *
   ((first | refine aJ ?_ | skip); refine cB (cf := dQ) rfl rfl rfl rfl ?_; unfold dQ; dsimp only [aC, Nat.reduceAdd, Nat.zero_add])
   repeat' (first | refine aS ?_ | refine yc ?_ (ha := by first | exact hf _ _ | exact he _ _ | exact jH | exact tK | assumption) | (show zn; refine aA ?_ (ha := by first | exact hf _ _ | exact he _ _ | exact jH | exact tK | assumption)) | (show gA; first | refine aH (fun _ => ?_) fun _ => ?_ | refine gc_E (fun _ => ?_) fun _ => ?_ | refine gc_N (fun _ => ?_) fun _ => ?_ | refine aT ?_ | refine gc_B (fun _ => ?_) fun _ => ?_) | fail)
   simp only [bJ, List.length_nil]
end Go.Abs
