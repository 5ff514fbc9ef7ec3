/- A part of the proof of RowSpeakOffers, RowSpeakMessages: lemmas alone, without conditions. -/
import Derived.Test.YtpcnjabfiahhhaaGreatDoorK36
import Derived.Test.YtpcnjabfiahhhaaGreatDoorK33
set_option linter.all false
namespace Go.Abs
open Go.Proofs.YtpcnjabfiahhhaaGreatDoor
attribute [local irreducible] enL R RR fP fB pX fK fQ pU apply fT gQ bW bZ eJ bR iL bG bD eC cR kD dO V.rb V.rbL
end Go.Abs
namespace Go.Abs
open Go.Proofs.YtpcnjabfiahhhaaGreatDoor
attribute [local irreducible] enL R RR fP fB pX fK fQ pU apply fT gQ bW bZ eJ bR iL bG bD eC cR kD dO V.rb V.rbL
theorem aJ0 (l : List Slot) (k : Int) (f : Frame) (start ppm : Int) : ∃ (y : Say) (b : Bool), spk l k f start ppm = .tup [y.v, .bool b] := by
 unfold spk; split
 ·exact ⟨_, _, rfl⟩
 ·exact ⟨_, _, rfl⟩
end Go.Abs
namespace Go.Abs
open Go.Proofs.YtpcnjabfiahhhaaGreatDoor
attribute [local irreducible] enL R RR fP fB pX fK fQ pU apply fT gQ bW bZ eJ bR iL bG bD eC cR kD dO V.rb V.rbL
def nO (l : List Link) (p : Int) : Int := match l with
 | [] => 0
 | x :: r => (if x.a = p ∨ x.b = p then 2 else 0) + nO r p
theorem aKs (l : List Link) (x : Link) (p : Int) : nO (l ++ [x]) p = nO l p + (if x.a = p ∨ x.b = p then 2 else 0) := by
 induction l with
 | nil => simp [nO]
 | cons y l ih => rw [List.cons_append, nO, ih, nO]; omega
theorem aKt {l : List Link} {i : Nat} {x : Link} {p : Int} (h : l[i]? = some x) : nO (l.take (i + 1)) p = nO (l.take i) p + (if x.a = p ∨ x.b = p then 2 else 0) := by rw [← oT h, aKs]
theorem aDv (l : List Link) (p : Int) : 0 ≤ nO l p ∧ nO l p ≤ 2 * l.length := by
 induction l with
 | nil => simp [nO]
 | cons x l ih => rw [nO, List.length_cons]; split <;> omega
section
variable {H : aC} {s : Option Nat} {pid pn pk : Nat} {x1 x2 x3 x4 x5 x6 x7 x8 x9 x10 x11 p : Int}
theorem aG7 (hp : pid < H.length) : Call tab s pD [.agg [.ar 2 pid 0 pn pk, .nls, .int .i64 x1, .int .i64 x2, .int .i64 x3, .int .i64 x4, .int .i64 x5, .int .i64 x6, .int .i64 x7, .int .i64 x8, .int .i64 x9, .int .i64 x10, .int .i64 x11], .int .i64 p] H = some (.int .i64 0, H) := by
 have hb : V.rbL 0 [V.agg [.ar 2 pid 0 pn pk, .nls, .int .i64 x1, .int .i64 x2, .int .i64 x3, .int .i64 x4, .int .i64 x5, .int .i64 x6, .int .i64 x7, .int .i64 x8, .int .i64 x9, .int .i64 x10, .int .i64 x11], .int .i64 p] = false := by simp [V.rbL, V.rb]
 ((first | refine aJ ?_ | skip); refine aKo (cf := jV) rfl rfl rfl rfl hb ?_; unfold jV; dsimp only [aB, Nat.reduceAdd, Nat.zero_add])
 repeat' (first | refine aS ?_ | refine yc ?_ | (show zn; refine aA ?_) | (show gA; first | refine aH (fun _ => ?_) fun _ => ?_ | refine gc_E (fun _ => ?_) fun _ => ?_ | refine gc_N (fun _ => ?_) fun _ => ?_ | refine aT ?_ | refine gc_B (fun _ => ?_) fun _ => ?_) | fail)
 refine aY ?_
 unfold gU
 repeat' (first | refine aS ?_ | refine yc ?_ | (show zn; refine aA ?_) | (show gA; first | refine aH (fun _ => ?_) fun _ => ?_ | refine gc_E (fun _ => ?_) fun _ => ?_ | refine gc_N (fun _ => ?_) fun _ => ?_ | refine aT ?_ | refine gc_B (fun _ => ?_) fun _ => ?_) | fail)
 rfl
set_option maxHeartbeats 1000000 in
theorem aJg {lid lq : Nat} {l : List Link} (hp : pid < H.length) (hl : H[lid]? = some (enL l)) (hn : l.length ≤ 10) : Call tab s pD [.agg [.ar 2 pid 0 pn pk, .ar 6 lid 0 l.length lq, .int .i64 x1, .int .i64 x2, .int .i64 x3, .int .i64 x4, .int .i64 x5, .int .i64 x6, .int .i64 x7, .int .i64 x8, .int .i64 x9, .int .i64 x10, .int .i64 x11], .int .i64 p] H = some (.int .i64 (nO l p), H) := by
 have hb : V.rbL 0 [V.agg [.ar 2 pid 0 pn pk, .ar 6 lid 0 l.length lq, .int .i64 x1, .int .i64 x2, .int .i64 x3, .int .i64 x4, .int .i64 x5, .int .i64 x6, .int .i64 x7, .int .i64 x8, .int .i64 x9, .int .i64 x10, .int .i64 x11], .int .i64 p] = false := by simp [V.rbL, V.rb]
 have hll : lid < H.length := (List.getElem?_eq_some_iff.1 hl).1
 ((first | refine aJ ?_ | skip); refine aKo (cf := jV) rfl rfl rfl rfl hb ?_; unfold jV; dsimp only [aB, Nat.reduceAdd, Nat.zero_add])
 repeat' (first | refine aS ?_ | refine yc ?_ | (show zn; refine aA ?_) | (show gA; first | refine aH (fun _ => ?_) fun _ => ?_ | refine gc_E (fun _ => ?_) fun _ => ?_ | refine gc_N (fun _ => ?_) fun _ => ?_ | refine aT ?_ | refine gc_B (fun _ => ?_) fun _ => ?_) | fail)
 refine xU l.length (fun i (_ : Unit) => [(5, .int .i64 (nO (l.take i) p)), (6, .int .i64 i)]) (fun _ _ => _) (fun _ _ => True) ?_ ?_ () trivial
 ·intro i _ hi _ ih
  obtain ⟨x, hx⟩ := xT hi
  rw [aKt hx] at ih
  have hbd := aDv (l.take i) p
  rw [List.length_take] at hbd
  generalize nO (l.take i) p = q at *
  have hil : (i : Int) < (l.length : Int) := by omega
  have hwi : IntKind.i64.wrap ((i : Int) + 1) = ((i + 1 : Nat) : Int) := IntWalk.i64_in _ (by omega)
  by_cases h1 : x.a = p ∨ x.b = p
  ·rw [if_pos h1] at ih
   by_cases h2 : x.a = p
   ·refine cD (by dsimp only [pN, lk, Nat.reduceBEq, cond_true, cond_false, Option.getD_some, Option.getD_none]; first | done | exact rfl) ?_; refine aY ?_
    unfold gU
    repeat' (first | refine aS ?_ | refine yc ?_ | (show zn; refine aA ?_) | (show gA; first | refine aH (fun _ => ?_) fun _ => ?_ | refine gc_E (fun _ => ?_) fun _ => ?_ | refine gc_N (fun _ => ?_) fun _ => ?_ | refine aT ?_ | refine gc_B (fun _ => ?_) fun _ => ?_) | fail)
    refine jQ ?_
    exact ih () trivial
   ·have h3 : x.b = p := h1.resolve_left h2
    refine cD (by dsimp only [pN, lk, Nat.reduceBEq, cond_true, cond_false, Option.getD_some, Option.getD_none]; first | done | exact rfl) ?_; refine aY ?_
    unfold gU
    repeat' (first | refine aS ?_ | refine yc ?_ | (show zn; refine aA ?_) | (show gA; first | refine aH (fun _ => ?_) fun _ => ?_ | refine gc_E (fun _ => ?_) fun _ => ?_ | refine gc_N (fun _ => ?_) fun _ => ?_ | refine aT ?_ | refine gc_B (fun _ => ?_) fun _ => ?_) | fail)
    refine jQ ?_
    exact ih () trivial
  ·rw [if_neg h1] at ih
   have h2 : ¬ x.a = p := fun k => h1 (.inl k)
   have h3 : ¬ x.b = p := fun k => h1 (.inr k)
   refine cD (by dsimp only [pN, lk, Nat.reduceBEq, cond_true, cond_false, Option.getD_some, Option.getD_none]; first | done | exact rfl) ?_; refine aY ?_
   unfold gU
   repeat' (first | refine aS ?_ | refine yc ?_ | (show zn; refine aA ?_) | (show gA; first | refine aH (fun _ => ?_) fun _ => ?_ | refine gc_E (fun _ => ?_) fun _ => ?_ | refine gc_N (fun _ => ?_) fun _ => ?_ | refine aT ?_ | refine gc_B (fun _ => ?_) fun _ => ?_) | fail)
   refine jQ ?_
   have := ih () trivial
   rw [Int.add_zero] at this
   exact this
 ·intro _ _
  rw [List.take_length]
  refine cD (by dsimp only [pN, lk, Nat.reduceBEq, cond_true, cond_false, Option.getD_some, Option.getD_none]; first | done | exact rfl) ?_; refine aY ?_
  unfold gU
  repeat' (first | refine aS ?_ | refine yc ?_ | (show zn; refine aA ?_) | (show gA; first | refine aH (fun _ => ?_) fun _ => ?_ | refine gc_E (fun _ => ?_) fun _ => ?_ | refine gc_N (fun _ => ?_) fun _ => ?_ | refine aT ?_ | refine gc_B (fun _ => ?_) fun _ => ?_) | fail)
  rfl
end
end Go.Abs
namespace Go.Abs
open Go.Proofs.YtpcnjabfiahhhaaGreatDoor
attribute [local irreducible] enL R RR fP fB pX fK fQ pU apply fT gQ bW bZ eJ bR iL bG bD eC cR kD dO V.rb V.rbL
section
variable {H : aC} {lm id pid pn pk a b : Nat} {x1 x2 x3 x4 x5 x6 x7 x8 x9 x10 x11 na nb : Int} {PC : List V}
set_option maxHeartbeats 2000000 in
theorem pA (hid : H[id]? = some [.ar 2 pid 0 pn pk, .nls, .int .i64 x1, .int .i64 x2, .int .i64 x3, .int .i64 x4, .int .i64 x5, .int .i64 x6, .int .i64 x7, .int .i64 x8, .int .i64 x9, .int .i64 x10, .int .i64 x11])
 (hpid : H[pid]? = some PC) (hne : id ≠ pid) (ha : PC[2 * a]? = some (.int .i64 na)) (hb : PC[2 * b]? = some (.int .i64 nb)) (hab : a ≠ b) (han : a < pn) (hbn : b < pn) (hlm : lm ≤ pid) (hrb : V.rbL H.length PC = true) :
 Call tab (some lm) nP [.ptr id 0, .int .i64 (a : Int), .int .i64 (b : Int)] H = some (.agg [.int .i64 a, .int .i64 b, .int .i64 0, .int .i64 1, .int .i64 0, .int .i64 1], H.set pid ((PC.set (2 * a) (.int .i64 (max na 6))).set (2 * b) (.int .i64 (max nb 6)))) := by
 have hil : id < H.length := (List.getElem?_eq_some_iff.1 hid).1
 have hpl : pid < H.length := (List.getElem?_eq_some_iff.1 hpid).1
 have oa : 0 + ((a : Int)).toNat * 2 = 2 * a := by omega
 have ob : 0 + ((b : Int)).toNat * 2 = 2 * b := by omega
 have hne2 : pid ≠ id := fun e => hne e.symm
 have hb2 : (PC.set (2 * a) (.int .i64 (max na 6)))[2 * b]? = some (.int .i64 nb) := by rw [List.getElem?_set_ne (by omega)]; exact hb
 have hal : (a : Int) < (pn : Int) := by omega
 have hlm2 : lm ≤ H.length := by omega
 have w1 : IntKind.i64.wrap (0 + 6 : Int) = 6 := by decide
 have w2 : IntKind.i64.wrap (0 + 1 : Int) = 1 := by decide
 have hbl : (b : Int) < (pn : Int) := by omega
 ((first | refine aJ ?_ | skip); refine aKp (cf := jC) rfl rfl rfl (by decide) ?_; unfold jC; dsimp only [aB, Nat.reduceAdd, Nat.zero_add])
 repeat' (first | refine aS ?_ | refine yc ?_ (ha := by first | exact aG7 (by simp only [List.length_append, List.length_cons, List.length_nil]; omega) | assumption) | (show zn; refine aA ?_ (ha := by first | exact aG7 (by simp only [List.length_append, List.length_cons, List.length_nil]; omega) | assumption)) | (show gA; first | refine aH (fun _ => ?_) fun _ => ?_ | refine gc_E (fun _ => ?_) fun _ => ?_ | refine gc_N (fun _ => ?_) fun _ => ?_ | refine aT ?_ | refine gc_B (fun _ => ?_) fun _ => ?_) | fail)
 rw [List.append_assoc, List.take_left' (by rw [List.length_set])]
set_option maxHeartbeats 2000000 in
theorem jA {lid lq : Nat} {l : List Link} (hid : H[id]? = some [.ar 2 pid 0 pn pk, .ar 6 lid 0 l.length lq, .int .i64 x1, .int .i64 x2, .int .i64 x3, .int .i64 x4, .int .i64 x5, .int .i64 x6, .int .i64 x7, .int .i64 x8, .int .i64 x9, .int .i64 x10, .int .i64 x11])
 (hlid : H[lid]? = some (enL l)) (hln : l.length ≤ 10) (hpid : H[pid]? = some PC) (hne : id ≠ pid) (ha : PC[2 * a]? = some (.int .i64 na)) (hb : PC[2 * b]? = some (.int .i64 nb)) (hab : a ≠ b) (han : a < pn) (hbn : b < pn) (hlm : lm ≤ pid) (hrb : V.rbL H.length PC = true) :
 Call tab (some lm) nP [.ptr id 0, .int .i64 (a : Int), .int .i64 (b : Int)] H = some (.agg [.int .i64 a, .int .i64 b, .int .i64 (nO l a), .int .i64 (nO l a + 1), .int .i64 (nO l b), .int .i64 (nO l b + 1)], H.set pid ((PC.set (2 * a) (.int .i64 (max na (nO l a + 6)))).set (2 * b) (.int .i64 (max nb (nO l b + 6))))) := by
 have hil : id < H.length := (List.getElem?_eq_some_iff.1 hid).1
 have hpl : pid < H.length := (List.getElem?_eq_some_iff.1 hpid).1
 have oa : 0 + ((a : Int)).toNat * 2 = 2 * a := by omega
 have ob : 0 + ((b : Int)).toNat * 2 = 2 * b := by omega
 have hne2 : pid ≠ id := fun e => hne e.symm
 have hb2 : (PC.set (2 * a) (.int .i64 (max na (nO l a + 6))))[2 * b]? = some (.int .i64 nb) := by rw [List.getElem?_set_ne (by omega)]; exact hb
 have hal : (a : Int) < (pn : Int) := by omega
 have hlm2 : lm ≤ H.length := by omega
 have ca := aDv l a
 have cb := aDv l b
 have w1 : IntKind.i64.wrap (nO l a + 6 : Int) = nO l a + 6 := IntWalk.i64_in _ (by omega)
 have w2 : IntKind.i64.wrap (nO l a + 1 : Int) = nO l a + 1 := IntWalk.i64_in _ (by omega)
 have w3 : IntKind.i64.wrap (nO l b + 6 : Int) = nO l b + 6 := IntWalk.i64_in _ (by omega)
 have w4 : IntKind.i64.wrap (nO l b + 1 : Int) = nO l b + 1 := IntWalk.i64_in _ (by omega)
 have hll : lid < H.length := (List.getElem?_eq_some_iff.1 hlid).1
 have hbl : (b : Int) < (pn : Int) := by omega
 ((first | refine aJ ?_ | skip); refine aKp (cf := jC) rfl rfl rfl (by decide) ?_; unfold jC; dsimp only [aB, Nat.reduceAdd, Nat.zero_add])
 repeat' (first | refine aS ?_ | refine yc ?_ (ha := by first | exact aJg (by simp only [List.length_append, List.length_cons, List.length_nil]; omega) (by exact Y3) hln | assumption) | (show zn; refine aA ?_ (ha := by first | exact aJg (by simp only [List.length_append, List.length_cons, List.length_nil]; omega) (by exact Y3) hln | assumption)) | (show gA; first | refine aH (fun _ => ?_) fun _ => ?_ | refine gc_E (fun _ => ?_) fun _ => ?_ | refine gc_N (fun _ => ?_) fun _ => ?_ | refine aT ?_ | refine gc_B (fun _ => ?_) fun _ => ?_) | fail)
 rw [List.append_assoc, List.take_left' (by rw [List.length_set])]
end
end Go.Abs
namespace Go.Abs
open Go.Proofs.YtpcnjabfiahhhaaGreatDoor
theorem aZd {s : Option Nat} {H H1 : aC} {n : Nat} {k : IntKind} {v : Int} : pU .F [.t n] s H [] (.ret, [(n, .int k v)], H1) = some (.int k v, H) := by simp [pU, bG, I1, eget, V.noVia, bD, V.flat, tie]
attribute [local irreducible] enL R RR fP fB pX fK fQ pU apply fT gQ bW bZ eJ bR iL bG bD eC cR kD dO V.rb V.rbL
structure NumA (x : Nums) : Prop where
 cy : 20000 ≤ x.cycle ∧ x.cycle ≤ 27000
 dr : 0 ≤ x.drift ∧ x.drift ≤ 140
 lo : 0 ≤ x.lost ∧ x.lost ≤ 1
 ag : 1 ≤ x.ages ∧ x.ages ≤ 10
def kY (x : Nums) : Int := uT (2 * x.drift * x.cycle) 1000000 + 1
section
variable {k : Nat} {x : Nums} {s : Option Nat} {H : aC}
theorem nV (h : NumA x) : 1 ≤ kY x ∧ kY x ≤ 9 := by
 have h1 : 0 ≤ x.drift * x.cycle ∧ x.drift * x.cycle ≤ 3780000 := n9 h.dr ⟨by have := h.cy; omega, h.cy.2⟩
 have h2 : 2 * x.drift * x.cycle = 2 * (x.drift * x.cycle) := Int.mul_assoc ..
 unfold kY uT
 rw [if_pos (by decide)]
 omega
theorem aRi (h : NumA x) : Call tab s nA [(bM k x).v] H = some (.int .i64 (kY x), H) := by
 have h4 : 0 ≤ x.drift * x.cycle ∧ x.drift * x.cycle ≤ 3780000 := n9 h.dr ⟨by have := h.cy; omega, h.cy.2⟩
 have h5 : 2 * x.drift * x.cycle = 2 * (x.drift * x.cycle) := Int.mul_assoc ..
 have h1 := nV h; have h9 := h.dr
 have w1 : IntKind.i64.wrap (2 * x.drift * x.cycle) = 2 * x.drift * x.cycle := IntWalk.i64_in _ (by omega)
 have w3 : IntKind.i64.wrap (uT (2 * x.drift * x.cycle) 1000000 + 1) = kY x := IntWalk.i64_in _ (by have : kY x = uT (2 * x.drift * x.cycle) 1000000 + 1 := rfl; omega)
 unfold Config.v bM
 ((first | refine aJ ?_ | skip); refine bX (cf := nC) rfl rfl rfl rfl ?_; unfold nC; dsimp only [aB, Nat.reduceAdd, Nat.zero_add])
 repeat' (first | refine aS ?_ | refine yc ?_ (ha := by first | exact aL0 (by omega) | assumption) | (show zn; refine aA ?_ (ha := by first | exact aL0 (by omega) | assumption)) | (show gA; first | refine aH (fun _ => ?_) fun _ => ?_ | refine gc_E (fun _ => ?_) fun _ => ?_ | refine gc_N (fun _ => ?_) fun _ => ?_ | refine aT ?_ | refine gc_B (fun _ => ?_) fun _ => ?_) | fail)
 rfl
theorem aV9 (h : NumA x) : Call tab s vV [(bM k x).v] H = some (.int .i64 0, H) := by
 have h1 := h.cy; have h2 := h.dr; have h4 := h.ag; have h5 := h.lo
 unfold Config.v bM
 ((first | refine aJ ?_ | skip); refine bX (cf := oX) rfl rfl rfl rfl ?_; unfold oX; dsimp only [aB, Nat.reduceAdd, Nat.zero_add])
 repeat' (first | refine aS ?_ | refine yc ?_ | (show zn; refine aA ?_) | (show gA; first | refine aH (fun _ => ?_) fun _ => ?_ | refine gc_E (fun _ => ?_) fun _ => ?_ | refine gc_N (fun _ => ?_) fun _ => ?_ | refine aT ?_ | refine gc_B (fun _ => ?_) fun _ => ?_) | fail)
 rfl
theorem aKa (h : NumA x) (hp : 1 ≤ (aCa k).length) (hc : ∀ s H, Call tab s bS [(bM k x).v] H = some (.tup [.int .i64 0, .int .i64 0], H)) : Call tab s g4 [(bM k x).v] H = some (.bool true, H) := by
 have hg : ∀ s H, Call tab s pZ [(bM k x).v, .int .i64 0] H = some (.bool true, H) := by
  intro s H
  have hd : decide ((0 : Int) ≤ 0 ∧ (0 : Int) < ((aCa k).length : Int)) = true := decide_eq_true (by omega)
  rw [← hd]
  unfold Config.v bM at *
  ((first | refine aJ ?_ | skip); refine bX (cf := nB) rfl rfl rfl rfl ?_; unfold nB; dsimp only [aB, Nat.reduceAdd, Nat.zero_add])
  repeat' (first | refine aS ?_ | refine yc ?_ (ha := by first | exact hc _ _ | exact aBu | assumption) | (show zn; refine aA ?_ (ha := by first | exact hc _ _ | exact aBu | assumption)) | (show gA; first | refine aH (fun _ => ?_) fun _ => ?_ | refine gc_E (fun _ => ?_) fun _ => ?_ | refine gc_N (fun _ => ?_) fun _ => ?_ | refine aT ?_ | refine gc_B (fun _ => ?_) fun _ => ?_) | fail)
  rfl
 have ho := fun s H => aV9 (k := k) (s := s) (H := H) h
 unfold Config.v bM at *
 ((first | refine aJ ?_ | skip); refine bX (cf := pI) rfl rfl rfl rfl ?_; unfold pI; dsimp only [aB, Nat.reduceAdd, Nat.zero_add])
 repeat' (first | refine aS ?_ | refine yc ?_ (ha := by first | exact hg _ _ | exact ho _ _ | assumption) | (show zn; refine aA ?_ (ha := by first | exact hg _ _ | exact ho _ _ | assumption)) | (show gA; first | refine aH (fun _ => ?_) fun _ => ?_ | refine gc_E (fun _ => ?_) fun _ => ?_ | refine gc_N (fun _ => ?_) fun _ => ?_ | refine aT ?_ | refine gc_B (fun _ => ?_) fun _ => ?_) | fail)
 rfl
theorem tA (h : NumA x) (hp : 1 ≤ (aCa k).length) (hc : ∀ s H, Call tab s bS [(bM k x).v] H = some (.tup [.int .i64 0, .int .i64 0], H)) {v : V} (hv : kD H 0 v = (bM k x).v) : Call tab s E9 [v] H = some (.int .i64 (kY x), H) := by
 have h1 := fun s H => aKa (s := s) (H := H) h hp hc
 have h2 := fun s H => aRi (k := k) (s := s) (H := H) h
 have hf : [v].map (kD H 0) = [(bM k x).v] := by rw [List.map_cons, hv]; rfl
 unfold Config.v bM at *
 refine aJ ?_
 refine bD1 (cf := tZ) rfl rfl rfl rfl hf (by exact tRB) ?_
 unfold tZ
 dsimp only [aB, Nat.reduceAdd, Nat.zero_add]
 repeat' (first | refine aS ?_ | refine yc ?_ (ha := by first | exact h1 _ _ | exact h2 _ _ | assumption) | (show zn; refine aA ?_ (ha := by first | exact h1 _ _ | exact h2 _ _ | assumption)) | (show gA; first | refine aH (fun _ => ?_) fun _ => ?_ | refine gc_E (fun _ => ?_) fun _ => ?_ | refine gc_N (fun _ => ?_) fun _ => ?_ | refine aT ?_ | refine gc_B (fun _ => ?_) fun _ => ?_) | fail)
 exact j7 aZd
theorem lX {β : Type} {T : Tab} {s : Option Nat} {c : C} {e e' : aZ} {H H' : aC} {κ : oK → Option β} {Y : Option β → Prop} (he : e = e') (hH : H = H') (h : Ev (R T s c e' H' κ) Y) : Ev (R T s c e H κ) Y := by rw [he, hH]; exact h
theorem dI : ∀ {n m : Nat} {H : aC} {d : List V}, n ≠ m → sJ n H (H.set m d) = true
 | _, _, [], _, _ => by simp [sJ]
 | 0, 0, _ :: _, _, h => absurd rfl h
 | 0, m + 1, a :: r, d, _ => by simp [sJ, jN]
 | n + 1, 0, a :: r, d, _ => by simp [sJ, m7]
 | n + 1, m + 1, a :: r, d, h => by
   have := dI (n := n) (m := m) (H := r) (d := d) (by omega)
   simpa [sJ] using this
theorem qU {β : Type} {T : Tab} {l : Nat} {c : C} {e : aZ} {G H : aC} {κ : oK → Option β} {Y : Option β → Prop} (hk : eC (some l) G e H = H) (h : Ev (R T (some l) (.loop c) e H κ) Y) : Ev (pX T (some l) c G κ (.nrm, e, H)) Y := U5 hk h
end
end Go.Abs
