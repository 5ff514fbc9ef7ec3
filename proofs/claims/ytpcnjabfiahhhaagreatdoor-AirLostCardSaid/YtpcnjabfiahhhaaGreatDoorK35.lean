/- A part of the proof of RowAirFits, RowAirHeard, RowAirOrder, RowAirLost: lemmas alone, without conditions. -/
import Derived.Test.YtpcnjabfiahhhaaGreatDoorK34
set_option linter.all false
namespace Go.Abs
open Go.Proofs.YtpcnjabfiahhhaaGreatDoor
def rE (x : List UInt8) : Int := ((x.getD 0 0).toNat : Int)
def dec (b : List UInt8) : Except Int Frame :=
 if b.length < 7 then .error 2 else if opn b = true then (if 1 ≤ rE (b.take (b.length - 4)) ∧ rE (b.take (b.length - 4)) ≤ 5 then rdF (b.take (b.length - 4)) else .error 5) else .error 4
def yU (b : List UInt8) : Frame := match dec b with | .ok f => f | .error _ => fr0
def C0 (b : List UInt8) : Int := match dec b with | .ok _ => 0 | .error k => k
theorem jM {b : List UInt8} {k : Int} (h : dec b = .error k) : yU b = fr0 := by unfold yU; rw [h]
theorem jP {b : List UInt8} {k : Int} (h : dec b = .error k) : C0 b = k := by unfold C0; rw [h]
theorem J2 {b : List UInt8} {f : Frame} (h : dec b = .ok f) : yU b = f := by unfold yU; rw [h]
theorem J3 {b : List UInt8} {f : Frame} (h : dec b = .ok f) : C0 b = 0 := by unfold C0; rw [h]
theorem aCc {r : vR} {f : Frame} {k : Int} (h : r = .error k) : fin r f = .error k := by subst h; rfl
theorem aCd {r : vR} {f : Frame} {l : List UInt8} (h : r = .ok l) (hl : l.length ≠ 0) : fin r f = .error 3 := by
 subst h
 cases l with
 | nil => simp at hl
 | cons => rfl
theorem aCe {r : vR} {f : Frame} {l : List UInt8} (h : r = .ok l) (hl : l.length = 0) : fin r f = .ok f := by
 subst h
 cases l with
 | nil => rfl
 | cons => simp at hl
theorem aIo {x : List UInt8} {k : Int} (h3 : 3 ≤ x.length) (hk : rE x = k) (h1 : 1 ≤ k) (h5 : k ≤ 5) : bR 1 1 5 x = .ok (k, x.drop 1) := by
 cases x with
 | nil => simp at h3
 | cons y x =>
   have e : cW ((y :: x).take 1) = k := by rw [← hk]; simp [cW, rE]
   rw [aGw (by simp) (by rw [e]; exact ⟨h1, h5⟩), e]
theorem RS0 {B : List UInt8} : RS B (.ok B) 0 0 := ⟨Nat.zero_le _, .inl ⟨by rw [List.drop_zero], rfl⟩⟩
attribute [local irreducible] enL R RR dF cZ lV dE dG mP apply dB eI aX aZ cO aW fB aP aN cK bN gL cA V.rb V.rbL
section
variable {β : Type} {s : Option Nat} {rs : List eJ} {e0 e1 e2 : aQ} {d : Nat} {xs : List X} {κ : aQ × aB → Option β} {Y : Option β → Prop} {H : aB} {B : List UInt8} {r : vR} {a id lm w : Nat} {e t lo hi : Int}
theorem oQ (hx : dB xs e0 = some ([.ptr id 0, .int .i64 (w : Int), .int .i64 lo, .int .i64 hi], e1) := by exact tHX) (hd : aX e1 d = e2 := by exact oX) (hid : H[id]? = some (rR B a e t) := by exact tHB) (hc : gK e1 = true := by exact rfl) (hlm : lm ≤ id) (hs : RS B r a e) (hB : B.length ≤ 1000000) (hw : 1 ≤ w ∧ w ≤ 6)
 (k : ∀ v a' e' t', Fld B r (bR w lo hi) v a' e' → 0 ≤ v → v < 281474976710656 → Ev (RR tab (some lm) rs ((d, .int .i64 v) :: e2) (H.set id (rR B a' e' t')) κ) Y) :
 Ev (RR tab (some lm) ((some d, none, .call aM xs 0) :: rs) e0 H κ) Y := by
 obtain ⟨v, a', e', t', c, f, b1, b2, b3⟩ := P3 hid hlm hs hB hw
 exact cI (k v a' e' t' f b1 b2) hx c (by rw [hc, Bool.or_true]) hd
theorem aUb (hx : dB xs e0 = some ([.ptr id 0], e1) := by exact tHX) (hd : aX e1 d = e2 := by exact oX) (hid : H[id]? = some (rR B a e t) := by exact tHB) (hc : gK e1 = true := by exact rfl) (hlm : lm ≤ id) (hs : RS B r a e) (hB : B.length ≤ 1000000)
 (k : ∀ v a' e' t', Fld B r O7 v a' e' → Ev (RR tab (some lm) rs ((d, .int .i64 v) :: e2) (H.set id (rR B a' e' t')) κ) Y) :
 Ev (RR tab (some lm) ((some d, none, .call lE xs 0) :: rs) e0 H κ) Y := by
 obtain ⟨v, a', e', t', c, f⟩ := aJo hid hlm hs hB
 exact cI (k v a' e' t' f) hx c (by rw [hc, Bool.or_true]) hd
theorem aN2 (hx : dB xs e0 = some ([.ptr id 0], e1) := by exact tHX) (hd : aX e1 d = e2 := by exact oX) (hid : H[id]? = some (rR B a e t) := by exact tHB) (hc : gK e1 = true := by exact rfl) (hlm : lm ≤ id) (hs : RS B r a e) (hB : B.length ≤ 1000000)
 (k : ∀ (l : List Int) a' e' t', Fld B r P4 l a' e' → l.length ≤ 6 → Ev (RR tab (some lm) rs ((d, .sl (some 1) l.length (enL l)) :: e2) (H.set id (rR B a' e' t')) κ) Y) :
 Ev (RR tab (some lm) ((some d, none, .call iO xs 0) :: rs) e0 H κ) Y := by
 obtain ⟨l, a', e', t', c, f, b1⟩ := (aOf hid hlm hs hB).so
 exact cI (k l a' e' t' f b1) hx c (by rw [hc, Bool.or_true]) hd
theorem aUc (hx : dB xs e0 = some ([.ptr id 0], e1) := by exact tHX) (hd : aX e1 d = e2 := by exact oX) (hid : H[id]? = some (rR B a e t) := by exact tHB) (hc : gK e1 = true := by exact rfl) (hlm : lm ≤ id) (hs : RS B r a e) (hB : B.length ≤ 1000000)
 (k : ∀ (l : List UInt8) a' e' t', Fld B r rdB l a' e' → l.length ≤ 24 → Ev (RR tab (some lm) rs ((d, .sl (some 1) l.length (enL l)) :: e2) (H.set id (rR B a' e' t')) κ) Y) :
 Ev (RR tab (some lm) ((some d, none, .call nL xs 0) :: rs) e0 H κ) Y := by
 obtain ⟨l, a', e', t', c, f, b1⟩ := aOg hid hlm hs hB
 exact cI (k l a' e' t' f b1) hx c (by rw [hc, Bool.or_true]) hd
end
set_option maxHeartbeats 8000000 in
theorem aQ6 {s : Option Nat} {H : aB} {b : List UInt8} (hb : b.length ≤ 1000000) :
 Ev (Call tab s tU [.sl none b.length (enL b)] H) (fun o => ∃ t : Int, o = some (.tup [(yU b).v, .int .i64 (C0 b), .int .i64 t], H)) := by
 by_cases h7 : b.length < 7
 ·have hd : dec b = .error 2 := by unfold dec; rw [if_pos h7]
  rw [jM hd, jP hd]
  unfold Frame.v fr0
  have h7' : (b.length : Int) < 7 := by omega
  ((first | refine aC ?_ | skip); refine bE (cf := eG) rfl rfl rfl rfl ?_; unfold eG; dsimp only [aA, Nat.reduceAdd, Nat.zero_add])
  repeat' (first | refine aF ?_ | refine yc ?_ | refine sG (fun _ => ?_) fun _ => ?_ | refine aG ?_ | refine sH (fun _ => ?_) fun _ => ?_ | fail)
  exact ⟨_, by simp only [aL, List.length_nil]; rfl⟩
 have h7' : ¬ (b.length : Int) < 7 := by omega
 have ho := fun s H => aR4 (s := s) (H := H) (b := b) (by omega)
 have hw4 : IntKind.i64.wrap ((b.length : Int) - 4) = (b.length : Int) - 4 := IntWalk.i64_in _ (by omega)
 by_cases h4 : opn b = true
 rotate_left
 ·have hd : dec b = .error 4 := by unfold dec; rw [if_neg h7, if_neg h4]
  rw [jM hd, jP hd]
  rw [if_neg h4] at ho
  unfold Frame.v fr0
  ((first | refine aC ?_ | skip); refine bE (cf := eG) rfl rfl rfl rfl ?_; unfold eG; dsimp only [aA, Nat.reduceAdd, Nat.zero_add])
  repeat' (first | refine aF ?_ | refine yc ?_ (ha := by first | exact ho _ _ | assumption) | refine sG (fun _ => ?_) fun _ => ?_ | refine aG ?_ | refine sH (fun _ => ?_) fun _ => ?_ | fail)
  exact ⟨_, by simp only [aL, List.length_nil]; rfl⟩
 rw [if_pos h4] at ho
 have hdx : dec b = if 1 ≤ rE (b.take (b.length - 4)) ∧ rE (b.take (b.length - 4)) ≤ 5 then rdF (b.take (b.length - 4)) else .error 5 := by unfold dec; rw [if_neg h7, if_pos h4]
 have hxl : (b.take (b.length - 4)).length = b.length - 4 := by rw [List.length_take]; omega
 generalize b.take (b.length - 4) = x at *
 obtain ⟨x0, hx0⟩ : ∃ y, x[0]? = some y := ⟨x[0]'(by omega), by rw [List.getElem?_eq_getElem]⟩
 have hk0 : rE x = (x0.toNat : Int) := by unfold rE; rw [List.getD_eq_getElem?_getD, hx0]; rfl
 have h0 : (0 : Int) < (x.length : Int) := by omega
 have hB : x.length ≤ 1000000 := by omega
 by_cases hk : 1 ≤ rE x ∧ rE x ≤ 5
 rotate_left
 ·rw [if_neg hk] at hdx
  rw [jM hdx, jP hdx]
  rw [hk0] at hk
  unfold Frame.v fr0
  by_cases hk1 : (x0.toNat : Int) < 1
  ·((first | refine aC ?_ | skip); refine bE (cf := eG) rfl rfl rfl rfl ?_; unfold eG; dsimp only [aA, Nat.reduceAdd, Nat.zero_add])
   repeat' (first | refine aF ?_ | refine yc ?_ (ha := by first | exact ho _ _ | assumption) | refine sG (fun _ => ?_) fun _ => ?_ | refine aG ?_ | refine sH (fun _ => ?_) fun _ => ?_ | fail)
   exact ⟨_, by simp only [aL, List.length_nil]; rfl⟩
  ·have hk5 : (5 : Int) < (x0.toNat : Int) := by omega
   ((first | refine aC ?_ | skip); refine bE (cf := eG) rfl rfl rfl rfl ?_; unfold eG; dsimp only [aA, Nat.reduceAdd, Nat.zero_add])
   repeat' (first | refine aF ?_ | refine yc ?_ (ha := by first | exact ho _ _ | assumption) | refine sG (fun _ => ?_) fun _ => ?_ | refine aG ?_ | refine sH (fun _ => ?_) fun _ => ?_ | fail)
   exact ⟨_, by simp only [aL, List.length_nil]; rfl⟩
 rw [if_pos hk] at hdx
 rw [hk0] at hk
 have hk1 : ¬ (x0.toNat : Int) < 1 := by omega
 have hk5 : ¬ (5 : Int) < (x0.toNat : Int) := by omega
 have hkk : (x0.toNat : Int) = 1 ∨ (x0.toNat : Int) = 2 ∨ (x0.toNat : Int) = 3 ∨ (x0.toNat : Int) = 4 ∨ (x0.toNat : Int) = 5 := by omega
 obtain ⟨k, hkx⟩ : ∃ k : Int, (x0.toNat : Int) = k := ⟨_, rfl⟩
 have hrk := aIo (k := k) (by omega) (hk0.trans hkx) (by omega) (by omega)
 ((first | refine aC ?_ | skip); refine bE (cf := eG) rfl rfl rfl rfl ?_; unfold eG; dsimp only [aA, Nat.reduceAdd, Nat.zero_add])
 repeat' (first | refine aF ?_ | refine yc ?_ (ha := by first | exact ho _ _ | assumption) | refine sG (fun _ => ?_) fun _ => ?_ | refine aG ?_ | refine sH (fun _ => ?_) fun _ => ?_ | fail)
 simp only [List.nil_append, List.cons_append, List.length_cons, List.length_nil, Nat.reduceAdd, Nat.zero_add, List.set_cons_succ, List.set_cons_zero]
 refine oQ (w := 1) (hid := rfl) (hlm := Nat.zero_le _) (hs := RS0) (hB := hB) (hw := by decide) (k := fun v0 a0 e0 t0 f0 b0 c0 => ?_)
 simp only [List.nil_append, List.cons_append, List.length_cons, List.length_nil, Nat.reduceAdd, Nat.zero_add, List.set_cons_succ, List.set_cons_zero]
 obtain rfl : v0 = k := f0.2 _ _ _ rfl hrk
 have r0 := f0.1
 rw [tJ hrk] at r0
 clear f0
 repeat' (first | refine aF ?_ | refine yc ?_ | refine sG (fun _ => ?_) fun _ => ?_ | refine aG ?_ | refine sH (fun _ => ?_) fun _ => ?_ | fail)
 simp only [List.nil_append, List.cons_append, List.length_cons, List.length_nil, Nat.reduceAdd, Nat.zero_add, List.set_cons_succ, List.set_cons_zero]
 refine oQ (w := 1) (hid := rfl) (hlm := Nat.zero_le _) (hs := r0) (hB := hB) (hw := by decide) (k := fun v1 a1 e1 t1 f1 b1 c1 => ?_)
 simp only [List.nil_append, List.cons_append, List.length_cons, List.length_nil, Nat.reduceAdd, Nat.zero_add, List.set_cons_succ, List.set_cons_zero]
 repeat' (first | refine aF ?_ | refine yc ?_ | refine sG (fun _ => ?_) fun _ => ?_ | refine aG ?_ | refine sH (fun _ => ?_) fun _ => ?_ | fail)
 simp only [List.nil_append, List.cons_append, List.length_cons, List.length_nil, Nat.reduceAdd, Nat.zero_add, List.set_cons_succ, List.set_cons_zero]
 refine oQ (w := 1) (hid := rfl) (hlm := Nat.zero_le _) (hs := f1.1) (hB := hB) (hw := by decide) (k := fun v2 a2 e2 t2 f2 b2 c2 => ?_)
 simp only [List.nil_append, List.cons_append, List.length_cons, List.length_nil, Nat.reduceAdd, Nat.zero_add, List.set_cons_succ, List.set_cons_zero]
 have hd := aRg hrk f1.2 f2.2
 have r2 := f2.1
 generalize nx (nx (Except.ok (List.drop 1 x)) (bR 1 0 5)) (bR 1 0 11) = R at *
 clear f1 f2 r0
 rw [hkx] at hkk
 rcases hkk with rfl | rfl | rfl | rfl | rfl
 ·repeat' (first | refine aF ?_ | refine yc ?_ | refine sG (fun _ => ?_) fun _ => ?_ | refine aG ?_ | refine sH (fun _ => ?_) fun _ => ?_ | fail)
  simp only [List.nil_append, List.cons_append, List.length_cons, List.length_nil, Nat.reduceAdd, Nat.zero_add, List.set_cons_succ, List.set_cons_zero]
  refine oQ (w := 2) (hid := rfl) (hlm := Nat.zero_le _) (hs := r2) (hB := hB) (hw := by decide) (k := fun v3 a3 e3 t3 f3 b3 c3 => ?_)
  simp only [List.nil_append, List.cons_append, List.length_cons, List.length_nil, Nat.reduceAdd, Nat.zero_add, List.set_cons_succ, List.set_cons_zero]
  rw [aWs f3.2] at hd
  rw [hd] at hdx
  have hS := f3.1
  have ha := hS.hi
  unfold rR Frame.v
  rcases hS.is with ⟨q1, q2⟩ | ⟨q, q1, q2, q3⟩
  ·subst q2
   by_cases hl : (a3 : Int) < (x.length : Int)
   ·rw [aCd q1 (by rw [List.length_drop]; omega)] at hdx
    rw [jM hdx, jP hdx]
    unfold fr0
    repeat' (first | refine aF ?_ | refine yc ?_ | refine sG (fun _ => ?_) fun _ => ?_ | refine aG ?_ | refine sH (fun _ => ?_) fun _ => ?_ | fail)
    exact ⟨_, by simp only [aL, List.length_nil]; rfl⟩
   ·rw [aCe q1 (by rw [List.length_drop]; omega)] at hdx
    rw [J2 hdx, J3 hdx]
    unfold fr1
    repeat' (first | refine aF ?_ | refine yc ?_ | refine sG (fun _ => ?_) fun _ => ?_ | refine aG ?_ | refine sH (fun _ => ?_) fun _ => ?_ | fail)
    exact ⟨_, by simp only [aL, List.length_nil]; rfl⟩
  ·subst q2
   rw [aCc q1] at hdx
   have hne : e3 ≠ 0 := by omega
   rw [jM hdx, jP hdx]
   unfold fr0
   repeat' (first | refine aF ?_ | refine yc ?_ | refine sG (fun _ => ?_) fun _ => ?_ | refine aG ?_ | refine sH (fun _ => ?_) fun _ => ?_ | fail)
   exact ⟨_, by simp only [aL, List.length_nil]; rfl⟩
 ·repeat' (first | refine aF ?_ | refine yc ?_ | refine sG (fun _ => ?_) fun _ => ?_ | refine aG ?_ | refine sH (fun _ => ?_) fun _ => ?_ | fail)
  simp only [List.nil_append, List.cons_append, List.length_cons, List.length_nil, Nat.reduceAdd, Nat.zero_add, List.set_cons_succ, List.set_cons_zero]
  refine oQ (w := 6) (hid := rfl) (hlm := Nat.zero_le _) (hs := r2) (hB := hB) (hw := by decide) (k := fun v3 a3 e3 t3 f3 b3 c3 => ?_)
  simp only [List.nil_append, List.cons_append, List.length_cons, List.length_nil, Nat.reduceAdd, Nat.zero_add, List.set_cons_succ, List.set_cons_zero]
  repeat' (first | refine aF ?_ | refine yc ?_ | refine sG (fun _ => ?_) fun _ => ?_ | refine aG ?_ | refine sH (fun _ => ?_) fun _ => ?_ | fail)
  simp only [List.nil_append, List.cons_append, List.length_cons, List.length_nil, Nat.reduceAdd, Nat.zero_add, List.set_cons_succ, List.set_cons_zero]
  refine oQ (w := 2) (hid := rfl) (hlm := Nat.zero_le _) (hs := f3.1) (hB := hB) (hw := by decide) (k := fun v4 a4 e4 t4 f4 b4 c4 => ?_)
  simp only [List.nil_append, List.cons_append, List.length_cons, List.length_nil, Nat.reduceAdd, Nat.zero_add, List.set_cons_succ, List.set_cons_zero]
  repeat' (first | refine aF ?_ | refine yc ?_ | refine sG (fun _ => ?_) fun _ => ?_ | refine aG ?_ | refine sH (fun _ => ?_) fun _ => ?_ | fail)
  simp only [List.nil_append, List.cons_append, List.length_cons, List.length_nil, Nat.reduceAdd, Nat.zero_add, List.set_cons_succ, List.set_cons_zero]
  refine aN2 (hid := rfl) (hlm := Nat.zero_le _) (hs := f4.1) (hB := hB) (k := fun v5 a5 e5 t5 f5 b5 => ?_)
  simp only [List.nil_append, List.cons_append, List.length_cons, List.length_nil, Nat.reduceAdd, Nat.zero_add, List.set_cons_succ, List.set_cons_zero]
  rw [aWt f3.2 f4.2 f5.2] at hd
  rw [hd] at hdx
  have hS := f5.1
  have ha := hS.hi
  unfold rR Frame.v
  rcases hS.is with ⟨q1, q2⟩ | ⟨q, q1, q2, q3⟩
  ·subst q2
   by_cases hl : (a5 : Int) < (x.length : Int)
   ·rw [aCd q1 (by rw [List.length_drop]; omega)] at hdx
    rw [jM hdx, jP hdx]
    unfold fr0
    repeat' (first | refine aF ?_ | refine yc ?_ | refine sG (fun _ => ?_) fun _ => ?_ | refine aG ?_ | refine sH (fun _ => ?_) fun _ => ?_ | fail)
    exact ⟨_, by simp only [aL, List.length_nil]; rfl⟩
   ·rw [aCe q1 (by rw [List.length_drop]; omega)] at hdx
    rw [J2 hdx, J3 hdx]
    unfold fr2
    repeat' (first | refine aF ?_ | refine yc ?_ | refine sG (fun _ => ?_) fun _ => ?_ | refine aG ?_ | refine sH (fun _ => ?_) fun _ => ?_ | fail)
    exact ⟨_, by simp only [aL, List.length_nil]; rfl⟩
  ·subst q2
   rw [aCc q1] at hdx
   have hne : e5 ≠ 0 := by omega
   rw [jM hdx, jP hdx]
   unfold fr0
   repeat' (first | refine aF ?_ | refine yc ?_ | refine sG (fun _ => ?_) fun _ => ?_ | refine aG ?_ | refine sH (fun _ => ?_) fun _ => ?_ | fail)
   exact ⟨_, by simp only [aL, List.length_nil]; rfl⟩
 ·repeat' (first | refine aF ?_ | refine yc ?_ | refine sG (fun _ => ?_) fun _ => ?_ | refine aG ?_ | refine sH (fun _ => ?_) fun _ => ?_ | fail)
  simp only [List.nil_append, List.cons_append, List.length_cons, List.length_nil, Nat.reduceAdd, Nat.zero_add, List.set_cons_succ, List.set_cons_zero]
  refine oQ (w := 1) (hid := rfl) (hlm := Nat.zero_le _) (hs := r2) (hB := hB) (hw := by decide) (k := fun v3 a3 e3 t3 f3 b3 c3 => ?_)
  simp only [List.nil_append, List.cons_append, List.length_cons, List.length_nil, Nat.reduceAdd, Nat.zero_add, List.set_cons_succ, List.set_cons_zero]
  repeat' (first | refine aF ?_ | refine yc ?_ | refine sG (fun _ => ?_) fun _ => ?_ | refine aG ?_ | refine sH (fun _ => ?_) fun _ => ?_ | fail)
  simp only [List.nil_append, List.cons_append, List.length_cons, List.length_nil, Nat.reduceAdd, Nat.zero_add, List.set_cons_succ, List.set_cons_zero]
  refine oQ (w := 1) (hid := rfl) (hlm := Nat.zero_le _) (hs := f3.1) (hB := hB) (hw := by decide) (k := fun v4 a4 e4 t4 f4 b4 c4 => ?_)
  simp only [List.nil_append, List.cons_append, List.length_cons, List.length_nil, Nat.reduceAdd, Nat.zero_add, List.set_cons_succ, List.set_cons_zero]
  repeat' (first | refine aF ?_ | refine yc ?_ | refine sG (fun _ => ?_) fun _ => ?_ | refine aG ?_ | refine sH (fun _ => ?_) fun _ => ?_ | fail)
  simp only [List.nil_append, List.cons_append, List.length_cons, List.length_nil, Nat.reduceAdd, Nat.zero_add, List.set_cons_succ, List.set_cons_zero]
  refine oQ (w := 6) (hid := rfl) (hlm := Nat.zero_le _) (hs := f4.1) (hB := hB) (hw := by decide) (k := fun v5 a5 e5 t5 f5 b5 c5 => ?_)
  simp only [List.nil_append, List.cons_append, List.length_cons, List.length_nil, Nat.reduceAdd, Nat.zero_add, List.set_cons_succ, List.set_cons_zero]
  repeat' (first | refine aF ?_ | refine yc ?_ | refine sG (fun _ => ?_) fun _ => ?_ | refine aG ?_ | refine sH (fun _ => ?_) fun _ => ?_ | fail)
  simp only [List.nil_append, List.cons_append, List.length_cons, List.length_nil, Nat.reduceAdd, Nat.zero_add, List.set_cons_succ, List.set_cons_zero]
  refine aUb (hid := rfl) (hlm := Nat.zero_le _) (hs := f5.1) (hB := hB) (k := fun v6 a6 e6 t6 f6 => ?_)
  simp only [List.nil_append, List.cons_append, List.length_cons, List.length_nil, Nat.reduceAdd, Nat.zero_add, List.set_cons_succ, List.set_cons_zero]
  rw [aWu f3.2 f4.2 f5.2 f6.2] at hd
  rw [hd] at hdx
  have hS := f6.1
  have ha := hS.hi
  unfold rR Frame.v
  rcases hS.is with ⟨q1, q2⟩ | ⟨q, q1, q2, q3⟩
  ·subst q2
   by_cases hl : (a6 : Int) < (x.length : Int)
   ·rw [aCd q1 (by rw [List.length_drop]; omega)] at hdx
    rw [jM hdx, jP hdx]
    unfold fr0
    repeat' (first | refine aF ?_ | refine yc ?_ | refine sG (fun _ => ?_) fun _ => ?_ | refine aG ?_ | refine sH (fun _ => ?_) fun _ => ?_ | fail)
    exact ⟨_, by simp only [aL, List.length_nil]; rfl⟩
   ·rw [aCe q1 (by rw [List.length_drop]; omega)] at hdx
    rw [J2 hdx, J3 hdx]
    unfold fr3
    repeat' (first | refine aF ?_ | refine yc ?_ | refine sG (fun _ => ?_) fun _ => ?_ | refine aG ?_ | refine sH (fun _ => ?_) fun _ => ?_ | fail)
    exact ⟨_, by simp only [aL, List.length_nil]; rfl⟩
  ·subst q2
   rw [aCc q1] at hdx
   have hne : e6 ≠ 0 := by omega
   rw [jM hdx, jP hdx]
   unfold fr0
   repeat' (first | refine aF ?_ | refine yc ?_ | refine sG (fun _ => ?_) fun _ => ?_ | refine aG ?_ | refine sH (fun _ => ?_) fun _ => ?_ | fail)
   exact ⟨_, by simp only [aL, List.length_nil]; rfl⟩
 ·repeat' (first | refine aF ?_ | refine yc ?_ | refine sG (fun _ => ?_) fun _ => ?_ | refine aG ?_ | refine sH (fun _ => ?_) fun _ => ?_ | fail)
  simp only [List.nil_append, List.cons_append, List.length_cons, List.length_nil, Nat.reduceAdd, Nat.zero_add, List.set_cons_succ, List.set_cons_zero]
  refine oQ (w := 1) (hid := rfl) (hlm := Nat.zero_le _) (hs := r2) (hB := hB) (hw := by decide) (k := fun v3 a3 e3 t3 f3 b3 c3 => ?_)
  simp only [List.nil_append, List.cons_append, List.length_cons, List.length_nil, Nat.reduceAdd, Nat.zero_add, List.set_cons_succ, List.set_cons_zero]
  repeat' (first | refine aF ?_ | refine yc ?_ | refine sG (fun _ => ?_) fun _ => ?_ | refine aG ?_ | refine sH (fun _ => ?_) fun _ => ?_ | fail)
  simp only [List.nil_append, List.cons_append, List.length_cons, List.length_nil, Nat.reduceAdd, Nat.zero_add, List.set_cons_succ, List.set_cons_zero]
  refine aN2 (hid := rfl) (hlm := Nat.zero_le _) (hs := f3.1) (hB := hB) (k := fun v4 a4 e4 t4 f4 b4 => ?_)
  simp only [List.nil_append, List.cons_append, List.length_cons, List.length_nil, Nat.reduceAdd, Nat.zero_add, List.set_cons_succ, List.set_cons_zero]
  rw [aWv f3.2 f4.2] at hd
  rw [hd] at hdx
  have hS := f4.1
  have ha := hS.hi
  unfold rR Frame.v
  rcases hS.is with ⟨q1, q2⟩ | ⟨q, q1, q2, q3⟩
  ·subst q2
   by_cases hl : (a4 : Int) < (x.length : Int)
   ·rw [aCd q1 (by rw [List.length_drop]; omega)] at hdx
    rw [jM hdx, jP hdx]
    unfold fr0
    repeat' (first | refine aF ?_ | refine yc ?_ | refine sG (fun _ => ?_) fun _ => ?_ | refine aG ?_ | refine sH (fun _ => ?_) fun _ => ?_ | fail)
    exact ⟨_, by simp only [aL, List.length_nil]; rfl⟩
   ·rw [aCe q1 (by rw [List.length_drop]; omega)] at hdx
    rw [J2 hdx, J3 hdx]
    unfold fr4
    repeat' (first | refine aF ?_ | refine yc ?_ | refine sG (fun _ => ?_) fun _ => ?_ | refine aG ?_ | refine sH (fun _ => ?_) fun _ => ?_ | fail)
    exact ⟨_, by simp only [aL, List.length_nil]; rfl⟩
  ·subst q2
   rw [aCc q1] at hdx
   have hne : e4 ≠ 0 := by omega
   rw [jM hdx, jP hdx]
   unfold fr0
   repeat' (first | refine aF ?_ | refine yc ?_ | refine sG (fun _ => ?_) fun _ => ?_ | refine aG ?_ | refine sH (fun _ => ?_) fun _ => ?_ | fail)
   exact ⟨_, by simp only [aL, List.length_nil]; rfl⟩
 ·repeat' (first | refine aF ?_ | refine yc ?_ | refine sG (fun _ => ?_) fun _ => ?_ | refine aG ?_ | refine sH (fun _ => ?_) fun _ => ?_ | fail)
  simp only [List.nil_append, List.cons_append, List.length_cons, List.length_nil, Nat.reduceAdd, Nat.zero_add, List.set_cons_succ, List.set_cons_zero]
  refine oQ (w := 1) (hid := rfl) (hlm := Nat.zero_le _) (hs := r2) (hB := hB) (hw := by decide) (k := fun v3 a3 e3 t3 f3 b3 c3 => ?_)
  simp only [List.nil_append, List.cons_append, List.length_cons, List.length_nil, Nat.reduceAdd, Nat.zero_add, List.set_cons_succ, List.set_cons_zero]
  repeat' (first | refine aF ?_ | refine yc ?_ | refine sG (fun _ => ?_) fun _ => ?_ | refine aG ?_ | refine sH (fun _ => ?_) fun _ => ?_ | fail)
  simp only [List.nil_append, List.cons_append, List.length_cons, List.length_nil, Nat.reduceAdd, Nat.zero_add, List.set_cons_succ, List.set_cons_zero]
  refine oQ (w := 1) (hid := rfl) (hlm := Nat.zero_le _) (hs := f3.1) (hB := hB) (hw := by decide) (k := fun v4 a4 e4 t4 f4 b4 c4 => ?_)
  simp only [List.nil_append, List.cons_append, List.length_cons, List.length_nil, Nat.reduceAdd, Nat.zero_add, List.set_cons_succ, List.set_cons_zero]
  repeat' (first | refine aF ?_ | refine yc ?_ | refine sG (fun _ => ?_) fun _ => ?_ | refine aG ?_ | refine sH (fun _ => ?_) fun _ => ?_ | fail)
  simp only [List.nil_append, List.cons_append, List.length_cons, List.length_nil, Nat.reduceAdd, Nat.zero_add, List.set_cons_succ, List.set_cons_zero]
  refine oQ (w := 1) (hid := rfl) (hlm := Nat.zero_le _) (hs := f4.1) (hB := hB) (hw := by decide) (k := fun v5 a5 e5 t5 f5 b5 c5 => ?_)
  simp only [List.nil_append, List.cons_append, List.length_cons, List.length_nil, Nat.reduceAdd, Nat.zero_add, List.set_cons_succ, List.set_cons_zero]
  repeat' (first | refine aF ?_ | refine yc ?_ | refine sG (fun _ => ?_) fun _ => ?_ | refine aG ?_ | refine sH (fun _ => ?_) fun _ => ?_ | fail)
  simp only [List.nil_append, List.cons_append, List.length_cons, List.length_nil, Nat.reduceAdd, Nat.zero_add, List.set_cons_succ, List.set_cons_zero]
  refine oQ (w := 4) (hid := rfl) (hlm := Nat.zero_le _) (hs := f5.1) (hB := hB) (hw := by decide) (k := fun v6 a6 e6 t6 f6 b6 c6 => ?_)
  simp only [List.nil_append, List.cons_append, List.length_cons, List.length_nil, Nat.reduceAdd, Nat.zero_add, List.set_cons_succ, List.set_cons_zero]
  repeat' (first | refine aF ?_ | refine yc ?_ | refine sG (fun _ => ?_) fun _ => ?_ | refine aG ?_ | refine sH (fun _ => ?_) fun _ => ?_ | fail)
  simp only [List.nil_append, List.cons_append, List.length_cons, List.length_nil, Nat.reduceAdd, Nat.zero_add, List.set_cons_succ, List.set_cons_zero]
  refine aUc (hid := rfl) (hlm := Nat.zero_le _) (hs := f6.1) (hB := hB) (k := fun v7 a7 e7 t7 f7 b7 => ?_)
  simp only [List.nil_append, List.cons_append, List.length_cons, List.length_nil, Nat.reduceAdd, Nat.zero_add, List.set_cons_succ, List.set_cons_zero]
  rw [aWw f3.2 f4.2 f5.2 f6.2 f7.2] at hd
  rw [hd] at hdx
  have hS := f7.1
  have ha := hS.hi
  unfold rR Frame.v
  rcases hS.is with ⟨q1, q2⟩ | ⟨q, q1, q2, q3⟩
  ·subst q2
   by_cases hl : (a7 : Int) < (x.length : Int)
   ·rw [aCd q1 (by rw [List.length_drop]; omega)] at hdx
    rw [jM hdx, jP hdx]
    unfold fr0
    repeat' (first | refine aF ?_ | refine yc ?_ | refine sG (fun _ => ?_) fun _ => ?_ | refine aG ?_ | refine sH (fun _ => ?_) fun _ => ?_ | fail)
    exact ⟨_, by simp only [aL, List.length_nil]; rfl⟩
   ·rw [aCe q1 (by rw [List.length_drop]; omega)] at hdx
    rw [J2 hdx, J3 hdx]
    unfold fr5
    repeat' (first | refine aF ?_ | refine yc ?_ | refine sG (fun _ => ?_) fun _ => ?_ | refine aG ?_ | refine sH (fun _ => ?_) fun _ => ?_ | fail)
    exact ⟨_, by simp only [aL, List.length_nil]; rfl⟩
  ·subst q2
   rw [aCc q1] at hdx
   have hne : e7 ≠ 0 := by omega
   rw [jM hdx, jP hdx]
   unfold fr0
   repeat' (first | refine aF ?_ | refine yc ?_ | refine sG (fun _ => ?_) fun _ => ?_ | refine aG ?_ | refine sH (fun _ => ?_) fun _ => ?_ | fail)
   exact ⟨_, by simp only [aL, List.length_nil]; rfl⟩
end Go.Abs
