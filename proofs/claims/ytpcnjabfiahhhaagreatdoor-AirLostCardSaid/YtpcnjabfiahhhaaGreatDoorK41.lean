/- A part of the proof of RowAirFits, RowAirHeard, RowAirOrder, RowAirLost: lemmas alone, without conditions. -/
import Derived.Test.YtpcnjabfiahhhaaGreatDoorK37
import Derived.Test.YtpcnjabfiahhhaaGreatDoorK38
import Derived.Test.YtpcnjabfiahhhaaGreatDoorK39
import Derived.Test.YtpcnjabfiahhhaaGreatDoorK40
import Derived.Test.YtpcnjabfiahhhaaGreatDoorK32
set_option linter.all false
namespace Go.Abs
open Go.Proofs.YtpcnjabfiahhhaaGreatDoor
theorem aS2 (x : Nums) : ∀ k p, k < 8 → p < (dL k).length → 1 ≤ wR (pA k x) p ∧ 3 * ((fQ k p).length : Int) + wR (pA k x) p ≤ 28 := kp (by constructor <;> exact of_decide_eq_true (by kernel_rfl))
attribute [local irreducible] enL R RR dF cZ lV dE dG mP apply dB eI aX aZ cO aW fB aP aN cK bN gL cA V.rb V.rbL
theorem aRa {k : Nat} {x : Nums} (hk : k < 8) (h : NumOK ((dL k).length : Int) x) : Net (pA k x) (fQ k) (jK k) where
 n1 := k8 (Q := fun k => 1 ≤ (dL k).length ∧ (dL k).length ≤ 4) (by constructor <;> decide) k hk
 chk := fun _ _ => k8 (aYx x) k hk
 rchk := fun _ _ => k8 (xB x) k hk
 ends := fun _ _ p hp => kp (aTs x) k p hk hp
 lst := fun _ _ p hp => kp (aYq x) k p hk hp
 rprt := fun _ _ p hp => kp (aMs x) k p hk hp
 rcnt := fun _ _ p hp => kp (aUi x) k p hk hp
 room := fun p hp => aS2 x k p hk hp
 cy := h.cy
 dr := h.dr
 ld := rfl
 sl := rfl
 rt := rfl
 rm := rfl
 wi := h.wi
 lo := h.lo
 ag := h.ag
 li := h.li
 sp := h.sp
theorem aS3 {k : Nat} {x : Nums} (hk : k < 8) (h : NumOK ((dL k).length : Int) x) {s : Option Nat} {H : aB} {p : Nat} (hp : p < (dL k).length) : Call tab s eX [(pA k x).v, .int .i64 (p : Int)] H = some (.sl none (jK k p).length (enL (jK k p)), H) := by
 have h1 := fun s H => aLx (s := s) (H := H) (aRa hk h) (p := (p : Int))
 rw [decide_eq_true (show 0 ≤ (p : Int) ∧ (p : Int) < ((pA k x).parts.length : Int) from ⟨by omega, by show (p : Int) < ((dL k).length : Int); omega⟩)] at h1
 have h2 := fun s H => kp (aMs (s := s) (H := H) x) k p hk hp
 unfold Config.v at *
 ((first | refine aC ?_ | skip); refine bE (cf := c_ref5_Slots) rfl rfl rfl rfl ?_; unfold c_ref5_Slots; dsimp only [aA, Nat.reduceAdd, Nat.zero_add])
 repeat' (first | refine aF ?_ | refine yc ?_ (ha := by first | exact h1 _ _ | assumption) | refine sG (fun _ => ?_) fun _ => ?_ | refine aG ?_ | refine sH (fun _ => ?_) fun _ => ?_ | fail)
 refine cI ?_ (ha := h2 _ _)
 refine bA0 ?_
 refine aRv ?_
 refine aCf ?_
 exact aPm 60 (kp (aYr x) k p hk hp) ⟨rfl⟩
theorem aKu {k : Nat} {x : Nums} (hk : k < 8) (h : NumOK ((dL k).length : Int) x) : NetR (pA k x) (fQ k) (jK k) := ⟨aRa hk h, fun _ _ _ hp => aS3 hk h hp⟩
theorem aEl {k p : Nat} (h : ¬ (k < 8 ∧ p < (dL k).length)) : jK k p = [] ∧ fQ k p = [] := by
 have h2 : ¬ p < (dL k).length := fun hp => h ⟨by
  rcases Nat.lt_or_ge k 8 with e | e
  ·exact e
  ·have : dL k = [] := by unfold dL; split <;> first | rfl | omega
   rw [this] at hp; simp at hp, hp⟩
 refine ⟨?_, if_neg h2⟩
 unfold jK; rw [List.getElem?_eq_none (by omega)]
theorem aCy (k p : Nat) : (jK k p).length ≤ 1000 ∧ (fQ k p).length ≤ 1000 := by
 by_cases h : k < 8 ∧ p < (dL k).length
 ·exact kp (Q := fun k p => (jK k p).length ≤ 1000 ∧ (fQ k p).length ≤ 1000) (by constructor <;> exact of_decide_eq_true (by kernel_rfl)) k p h.1 h.2
 ·rw [(aEl h).1, (aEl h).2]; exact ⟨Nat.zero_le _, Nat.zero_le _⟩
end Go.Abs
namespace Go.Abs
open Go.Proofs.YtpcnjabfiahhhaaGreatDoor
attribute [local irreducible] enL R RR dF cZ lV dE dG mP apply dB eI aX aZ cO aW fB aP aN cK bN gL cA V.rb V.rbL
def oB (l : List Link) (p : Int) : Int := match l with
 | [] => 0
 | x :: r => (if x.a = p ∨ x.b = p then 2 else 0) + oB r p
theorem aK4 (l : List Link) (x : Link) (p : Int) : oB (l ++ [x]) p = oB l p + (if x.a = p ∨ x.b = p then 2 else 0) := by
 induction l with
 | nil => simp [oB]
 | cons y l ih => rw [List.cons_append, oB, ih, oB]; omega
theorem aK5 {l : List Link} {i : Nat} {x : Link} {p : Int} (h : l[i]? = some x) : oB (l.take (i + 1)) p = oB (l.take i) p + (if x.a = p ∨ x.b = p then 2 else 0) := by rw [← kO h, aK4]
theorem aDe (l : List Link) (p : Int) : 0 ≤ oB l p ∧ oB l p ≤ 2 * l.length := by
 induction l with
 | nil => simp [oB]
 | cons x l ih => rw [oB, List.length_cons]; split <;> omega
section
variable {H : aB} {s : Option Nat} {pid pn pk : Nat} {x1 x2 x3 x4 x5 x6 x7 x8 x9 x10 x11 p : Int}
theorem aMl (hp : pid < H.length) : Call tab s pX [.agg [.ar 2 pid 0 pn pk, .nls, .int .i64 x1, .int .i64 x2, .int .i64 x3, .int .i64 x4, .int .i64 x5, .int .i64 x6, .int .i64 x7, .int .i64 x8, .int .i64 x9, .int .i64 x10, .int .i64 x11], .int .i64 p] H = some (.int .i64 0, H) := by
 have hb : V.rbL 0 [V.agg [.ar 2 pid 0 pn pk, .nls, .int .i64 x1, .int .i64 x2, .int .i64 x3, .int .i64 x4, .int .i64 x5, .int .i64 x6, .int .i64 x7, .int .i64 x8, .int .i64 x9, .int .i64 x10, .int .i64 x11], .int .i64 p] = false := by simp [V.rbL, V.rb]
 ((first | refine aC ?_ | skip); refine z9 (cf := mT) rfl rfl rfl rfl hb ?_; unfold mT; dsimp only [aA, Nat.reduceAdd, Nat.zero_add])
 repeat' (first | refine aF ?_ | refine yc ?_ | refine sG (fun _ => ?_) fun _ => ?_ | refine aG ?_ | refine sH (fun _ => ?_) fun _ => ?_ | fail)
 refine aE ?_
 unfold fU
 repeat' (first | refine aF ?_ | refine yc ?_ | refine sG (fun _ => ?_) fun _ => ?_ | refine aG ?_ | refine sH (fun _ => ?_) fun _ => ?_ | fail)
 rfl
set_option maxHeartbeats 1000000 in
theorem aPp {lid lq : Nat} {l : List Link} (hp : pid < H.length) (hl : H[lid]? = some (enL l)) (hn : l.length ≤ 10) : Call tab s pX [.agg [.ar 2 pid 0 pn pk, .ar 6 lid 0 l.length lq, .int .i64 x1, .int .i64 x2, .int .i64 x3, .int .i64 x4, .int .i64 x5, .int .i64 x6, .int .i64 x7, .int .i64 x8, .int .i64 x9, .int .i64 x10, .int .i64 x11], .int .i64 p] H = some (.int .i64 (oB l p), H) := by
 have hb : V.rbL 0 [V.agg [.ar 2 pid 0 pn pk, .ar 6 lid 0 l.length lq, .int .i64 x1, .int .i64 x2, .int .i64 x3, .int .i64 x4, .int .i64 x5, .int .i64 x6, .int .i64 x7, .int .i64 x8, .int .i64 x9, .int .i64 x10, .int .i64 x11], .int .i64 p] = false := by simp [V.rbL, V.rb]
 have hll : lid < H.length := (List.getElem?_eq_some_iff.1 hl).1
 ((first | refine aC ?_ | skip); refine z9 (cf := mT) rfl rfl rfl rfl hb ?_; unfold mT; dsimp only [aA, Nat.reduceAdd, Nat.zero_add])
 repeat' (first | refine aF ?_ | refine yc ?_ | refine sG (fun _ => ?_) fun _ => ?_ | refine aG ?_ | refine sH (fun _ => ?_) fun _ => ?_ | fail)
 refine oK l.length (fun i (_ : Unit) => [(5, .int .i64 (oB (l.take i) p)), (6, .int .i64 i)]) (fun _ _ => _) (fun _ _ => True) ?_ ?_ () trivial
 ·intro i _ hi _ ih
  obtain ⟨x, hx⟩ := oZ hi
  rw [aK5 hx] at ih
  have hbd := aDe (l.take i) p
  rw [List.length_take] at hbd
  generalize oB (l.take i) p = q at *
  have hil : (i : Int) < (l.length : Int) := by omega
  have hwi : IntKind.i64.wrap ((i : Int) + 1) = ((i + 1 : Nat) : Int) := IntWalk.i64_in _ (by omega)
  by_cases h1 : x.a = p ∨ x.b = p
  ·rw [if_pos h1] at ih
   by_cases h2 : x.a = p
   ·refine aJ (by dsimp only [eT, lk, Nat.reduceBEq, cond_true, cond_false, Option.getD_some, Option.getD_none]; first | done | exact rfl) ?_; refine aE ?_
    unfold fU
    repeat' (first | refine aF ?_ | refine yc ?_ | refine sG (fun _ => ?_) fun _ => ?_ | refine aG ?_ | refine sH (fun _ => ?_) fun _ => ?_ | fail)
    refine cV ?_
    exact ih () trivial
   ·have h3 : x.b = p := h1.resolve_left h2
    refine aJ (by dsimp only [eT, lk, Nat.reduceBEq, cond_true, cond_false, Option.getD_some, Option.getD_none]; first | done | exact rfl) ?_; refine aE ?_
    unfold fU
    repeat' (first | refine aF ?_ | refine yc ?_ | refine sG (fun _ => ?_) fun _ => ?_ | refine aG ?_ | refine sH (fun _ => ?_) fun _ => ?_ | fail)
    refine cV ?_
    exact ih () trivial
  ·rw [if_neg h1] at ih
   have h2 : ¬ x.a = p := fun k => h1 (.inl k)
   have h3 : ¬ x.b = p := fun k => h1 (.inr k)
   refine aJ (by dsimp only [eT, lk, Nat.reduceBEq, cond_true, cond_false, Option.getD_some, Option.getD_none]; first | done | exact rfl) ?_; refine aE ?_
   unfold fU
   repeat' (first | refine aF ?_ | refine yc ?_ | refine sG (fun _ => ?_) fun _ => ?_ | refine aG ?_ | refine sH (fun _ => ?_) fun _ => ?_ | fail)
   refine cV ?_
   have := ih () trivial
   rw [Int.add_zero] at this
   exact this
 ·intro _ _
  rw [List.take_length]
  refine aJ (by dsimp only [eT, lk, Nat.reduceBEq, cond_true, cond_false, Option.getD_some, Option.getD_none]; first | done | exact rfl) ?_; refine aE ?_
  unfold fU
  repeat' (first | refine aF ?_ | refine yc ?_ | refine sG (fun _ => ?_) fun _ => ?_ | refine aG ?_ | refine sH (fun _ => ?_) fun _ => ?_ | fail)
  rfl
end
end Go.Abs
namespace Go.Abs
open Go.Proofs.YtpcnjabfiahhhaaGreatDoor
attribute [local irreducible] enL R RR dF cZ lV dE dG mP apply dB eI aX aZ cO aW fB aP aN cK bN gL cA V.rb V.rbL
section
variable {H : aB} {lm id pid pn pk a b : Nat} {x1 x2 x3 x4 x5 x6 x7 x8 x9 x10 x11 na nb : Int} {PC : List V}
set_option maxHeartbeats 2000000 in
theorem pJ (hid : H[id]? = some [.ar 2 pid 0 pn pk, .nls, .int .i64 x1, .int .i64 x2, .int .i64 x3, .int .i64 x4, .int .i64 x5, .int .i64 x6, .int .i64 x7, .int .i64 x8, .int .i64 x9, .int .i64 x10, .int .i64 x11])
 (hpid : H[pid]? = some PC) (hne : id ≠ pid) (ha : PC[2 * a]? = some (.int .i64 na)) (hb : PC[2 * b]? = some (.int .i64 nb)) (hab : a ≠ b) (han : a < pn) (hbn : b < pn) (hlm : lm ≤ pid) (hrb : V.rbL H.length PC = true) :
 Call tab (some lm) oT [.ptr id 0, .int .i64 (a : Int), .int .i64 (b : Int)] H = some (.agg [.int .i64 a, .int .i64 b, .int .i64 0, .int .i64 1, .int .i64 0, .int .i64 1], H.set pid ((PC.set (2 * a) (.int .i64 (max na 6))).set (2 * b) (.int .i64 (max nb 6)))) := by
 have hil : id < H.length := (List.getElem?_eq_some_iff.1 hid).1
 have hpl : pid < H.length := (List.getElem?_eq_some_iff.1 hpid).1
 have oa : 0 + ((a : Int)).toNat * 2 = 2 * a := by omega
 have ob : 0 + ((b : Int)).toNat * 2 = 2 * b := by omega
 have hne2 : pid ≠ id := fun e => hne e.symm
 have hb2 : (PC.set (2 * a) (.int .i64 (max na 6)))[2 * b]? = some (.int .i64 nb) := by rw [List.getElem?_set_ne (by omega)]; exact hb
 have hal : (a : Int) < (pn : Int) := by omega
 have hlm2 : lm ≤ H.length := by omega
 have w1 : IntKind.i64.wrap (0 + 6 : Int) = 6 := by decide
 have w2 : IntKind.i64.wrap (0 + 1 : Int) = 1 := by decide
 have hbl : (b : Int) < (pn : Int) := by omega
 ((first | refine aC ?_ | skip); refine eE (cf := kR) rfl rfl rfl (by decide) ?_; unfold kR; dsimp only [aA, Nat.reduceAdd, Nat.zero_add])
 repeat' (first | refine aF ?_ | refine yc ?_ (ha := by first | exact aMl (by simp only [List.length_append, List.length_cons, List.length_nil]; omega) | assumption) | refine sG (fun _ => ?_) fun _ => ?_ | refine aG ?_ | refine sH (fun _ => ?_) fun _ => ?_ | fail)
 rw [List.append_assoc, List.take_left' (by rw [List.length_set])]
set_option maxHeartbeats 2000000 in
theorem gW {lid lq : Nat} {l : List Link} (hid : H[id]? = some [.ar 2 pid 0 pn pk, .ar 6 lid 0 l.length lq, .int .i64 x1, .int .i64 x2, .int .i64 x3, .int .i64 x4, .int .i64 x5, .int .i64 x6, .int .i64 x7, .int .i64 x8, .int .i64 x9, .int .i64 x10, .int .i64 x11])
 (hlid : H[lid]? = some (enL l)) (hln : l.length ≤ 10) (hpid : H[pid]? = some PC) (hne : id ≠ pid) (ha : PC[2 * a]? = some (.int .i64 na)) (hb : PC[2 * b]? = some (.int .i64 nb)) (hab : a ≠ b) (han : a < pn) (hbn : b < pn) (hlm : lm ≤ pid) (hrb : V.rbL H.length PC = true) :
 Call tab (some lm) oT [.ptr id 0, .int .i64 (a : Int), .int .i64 (b : Int)] H = some (.agg [.int .i64 a, .int .i64 b, .int .i64 (oB l a), .int .i64 (oB l a + 1), .int .i64 (oB l b), .int .i64 (oB l b + 1)], H.set pid ((PC.set (2 * a) (.int .i64 (max na (oB l a + 6)))).set (2 * b) (.int .i64 (max nb (oB l b + 6))))) := by
 have hil : id < H.length := (List.getElem?_eq_some_iff.1 hid).1
 have hpl : pid < H.length := (List.getElem?_eq_some_iff.1 hpid).1
 have oa : 0 + ((a : Int)).toNat * 2 = 2 * a := by omega
 have ob : 0 + ((b : Int)).toNat * 2 = 2 * b := by omega
 have hne2 : pid ≠ id := fun e => hne e.symm
 have hb2 : (PC.set (2 * a) (.int .i64 (max na (oB l a + 6))))[2 * b]? = some (.int .i64 nb) := by rw [List.getElem?_set_ne (by omega)]; exact hb
 have hal : (a : Int) < (pn : Int) := by omega
 have hlm2 : lm ≤ H.length := by omega
 have ca := aDe l a
 have cb := aDe l b
 have w1 : IntKind.i64.wrap (oB l a + 6 : Int) = oB l a + 6 := IntWalk.i64_in _ (by omega)
 have w2 : IntKind.i64.wrap (oB l a + 1 : Int) = oB l a + 1 := IntWalk.i64_in _ (by omega)
 have w3 : IntKind.i64.wrap (oB l b + 6 : Int) = oB l b + 6 := IntWalk.i64_in _ (by omega)
 have w4 : IntKind.i64.wrap (oB l b + 1 : Int) = oB l b + 1 := IntWalk.i64_in _ (by omega)
 have hll : lid < H.length := (List.getElem?_eq_some_iff.1 hlid).1
 have hbl : (b : Int) < (pn : Int) := by omega
 ((first | refine aC ?_ | skip); refine eE (cf := kR) rfl rfl rfl (by decide) ?_; unfold kR; dsimp only [aA, Nat.reduceAdd, Nat.zero_add])
 repeat' (first | refine aF ?_ | refine yc ?_ (ha := by first | exact aPp (by simp only [List.length_append, List.length_cons, List.length_nil]; omega) (by exact tHB) hln | assumption) | refine sG (fun _ => ?_) fun _ => ?_ | refine aG ?_ | refine sH (fun _ => ?_) fun _ => ?_ | fail)
 rw [List.append_assoc, List.take_left' (by rw [List.length_set])]
end
end Go.Abs
namespace Go.Abs
open Go.Proofs.YtpcnjabfiahhhaaGreatDoor
theorem aX0 {s : Option Nat} {H H1 : aB} {n : Nat} {k : IntKind} {v : Int} : mP .F [.t n] s H [] (.ret, [(n, .int k v)], H1) = some (.int k v, H) := by simp [mP, aP, M6, eget, V.noVia, aN, V.flat, tie]
attribute [local irreducible] enL R RR dF cZ lV dE dG mP apply dB eI aX aZ cO aW fB aP aN cK bN gL cA V.rb V.rbL
structure NumA (x : Nums) : Prop where
 cy : 20000 ≤ x.cycle ∧ x.cycle ≤ 27000
 dr : 0 ≤ x.drift ∧ x.drift ≤ 140
 lo : 0 ≤ x.lost ∧ x.lost ≤ 1
 ag : 1 ≤ x.ages ∧ x.ages ≤ 10
def B2 (x : Nums) : Int := P0 (2 * x.drift * x.cycle) 1000000 + 1
section
variable {k : Nat} {x : Nums} {s : Option Nat} {H : aB}
theorem aF2 (h : NumA x) : 1 ≤ B2 x ∧ B2 x ≤ 9 := by
 have h1 : 0 ≤ x.drift * x.cycle ∧ x.drift * x.cycle ≤ 3780000 := u9 h.dr ⟨by have := h.cy; omega, h.cy.2⟩
 have h2 : 2 * x.drift * x.cycle = 2 * (x.drift * x.cycle) := Int.mul_assoc ..
 unfold B2 P0
 rw [if_pos (by decide)]
 omega
theorem aPj (h : NumA x) : Call tab s nZ [(pA k x).v] H = some (.int .i64 (B2 x), H) := by
 have h4 : 0 ≤ x.drift * x.cycle ∧ x.drift * x.cycle ≤ 3780000 := u9 h.dr ⟨by have := h.cy; omega, h.cy.2⟩
 have h5 : 2 * x.drift * x.cycle = 2 * (x.drift * x.cycle) := Int.mul_assoc ..
 have h1 := aF2 h; have h9 := h.dr
 have w1 : IntKind.i64.wrap (2 * x.drift * x.cycle) = 2 * x.drift * x.cycle := IntWalk.i64_in _ (by omega)
 have w3 : IntKind.i64.wrap (P0 (2 * x.drift * x.cycle) 1000000 + 1) = B2 x := IntWalk.i64_in _ (by have : B2 x = P0 (2 * x.drift * x.cycle) 1000000 + 1 := rfl; omega)
 unfold Config.v pA
 ((first | refine aC ?_ | skip); refine bE (cf := qE) rfl rfl rfl rfl ?_; unfold qE; dsimp only [aA, Nat.reduceAdd, Nat.zero_add])
 repeat' (first | refine aF ?_ | refine yc ?_ (ha := by first | exact aTi (by omega) | assumption) | refine sG (fun _ => ?_) fun _ => ?_ | refine aG ?_ | refine sH (fun _ => ?_) fun _ => ?_ | fail)
 rfl
theorem aTc (h : NumA x) : Call tab s xX [(pA k x).v] H = some (.int .i64 0, H) := by
 have h1 := h.cy; have h2 := h.dr; have h4 := h.ag; have h5 := h.lo
 unfold Config.v pA
 ((first | refine aC ?_ | skip); refine bE (cf := sL) rfl rfl rfl rfl ?_; unfold sL; dsimp only [aA, Nat.reduceAdd, Nat.zero_add])
 repeat' (first | refine aF ?_ | refine yc ?_ | refine sG (fun _ => ?_) fun _ => ?_ | refine aG ?_ | refine sH (fun _ => ?_) fun _ => ?_ | fail)
 rfl
theorem aJp (h : NumA x) (hp : 1 ≤ (dL k).length) (hc : ∀ s H, Call tab s cG [(pA k x).v] H = some (.tup [.int .i64 0, .int .i64 0], H)) : Call tab s pY [(pA k x).v] H = some (.bool true, H) := by
 have hg : ∀ s H, Call tab s qL [(pA k x).v, .int .i64 0] H = some (.bool true, H) := by
  intro s H
  have hd : decide ((0 : Int) ≤ 0 ∧ (0 : Int) < ((dL k).length : Int)) = true := decide_eq_true (by omega)
  rw [← hd]
  unfold Config.v pA at *
  ((first | refine aC ?_ | skip); refine bE (cf := qD) rfl rfl rfl rfl ?_; unfold qD; dsimp only [aA, Nat.reduceAdd, Nat.zero_add])
  repeat' (first | refine aF ?_ | refine yc ?_ (ha := by first | exact hc _ _ | exact aLw | assumption) | refine sG (fun _ => ?_) fun _ => ?_ | refine aG ?_ | refine sH (fun _ => ?_) fun _ => ?_ | fail)
  rfl
 have ho := fun s H => aTc (k := k) (s := s) (H := H) h
 unfold Config.v pA at *
 ((first | refine aC ?_ | skip); refine bE (cf := mU) rfl rfl rfl rfl ?_; unfold mU; dsimp only [aA, Nat.reduceAdd, Nat.zero_add])
 repeat' (first | refine aF ?_ | refine yc ?_ (ha := by first | exact hg _ _ | exact ho _ _ | assumption) | refine sG (fun _ => ?_) fun _ => ?_ | refine aG ?_ | refine sH (fun _ => ?_) fun _ => ?_ | fail)
 rfl
theorem tN (h : NumA x) (hp : 1 ≤ (dL k).length) (hc : ∀ s H, Call tab s cG [(pA k x).v] H = some (.tup [.int .i64 0, .int .i64 0], H)) {v : V} (hv : gL H 0 v = (pA k x).v) : Call tab s M7 [v] H = some (.int .i64 (B2 x), H) := by
 have h1 := fun s H => aJp (s := s) (H := H) h hp hc
 have h2 := fun s H => aPj (k := k) (s := s) (H := H) h
 have hf : [v].map (gL H 0) = [(pA k x).v] := by rw [List.map_cons, hv]; rfl
 unfold Config.v pA at *
 refine aC ?_
 refine bBr (cf := zL) rfl rfl rfl rfl hf (by exact tRB) ?_
 unfold zL
 dsimp only [aA, Nat.reduceAdd, Nat.zero_add]
 repeat' (first | refine aF ?_ | refine yc ?_ (ha := by first | exact h1 _ _ | exact h2 _ _ | assumption) | refine sG (fun _ => ?_) fun _ => ?_ | refine aG ?_ | refine sH (fun _ => ?_) fun _ => ?_ | fail)
 exact n7 aX0
theorem lY {β : Type} {T : Tab} {s : Option Nat} {c : C} {e e' : aQ} {H H' : aB} {κ : oY → Option β} {Y : Option β → Prop} (he : e = e') (hH : H = H') (h : Ev (R T s c e' H' κ) Y) : Ev (R T s c e H κ) Y := by rw [he, hH]; exact h
theorem cL : ∀ {n m : Nat} {H : aB} {d : List V}, n ≠ m → sR n H (H.set m d) = true
 | _, _, [], _, _ => by simp [sR]
 | 0, 0, _ :: _, _, h => absurd rfl h
 | 0, m + 1, a :: r, d, _ => by simp [sR, iX]
 | n + 1, 0, a :: r, d, _ => by simp [sR, y9]
 | n + 1, m + 1, a :: r, d, h => by
   have := cL (n := n) (m := m) (H := r) (d := d) (by omega)
   simpa [sR] using this
theorem rD {β : Type} {T : Tab} {l : Nat} {c : C} {e : aQ} {G H : aB} {κ : oY → Option β} {Y : Option β → Prop} (hk : cK (some l) G e H = H) (h : Ev (R T (some l) (.loop c) e H κ) Y) : Ev (lV T (some l) c G κ (.nrm, e, H)) Y := oR hk h
end
end Go.Abs
namespace Go.Abs
open Go.Proofs.YtpcnjabfiahhhaaGreatDoor
abbrev tE (n N cy dr lo w : Int) : Nums := ⟨cy, w, dr, (n - 1) * (lo + 1) + 1 + N / 2048 % 4, lo, n * (lo + 1) + 2 + N / 8192 % 2, n * (lo + 1) + 2⟩
theorem tZ {Q : Nums → Prop} {n m : Int} (hn : n = 1 ∨ n = 2 ∨ n = 3 ∨ n = 4)
 (h : ∀ N cy dr lo E : Int, m % 65536 = N → 0 ≤ N ∧ N < 65536 → 20000 + 1000 * (N / 16 % 8) = cy → 20 * (N / 128 % 8) = dr → N / 1024 % 2 = lo → 20000 ≤ cy ∧ cy ≤ 27000 → 0 ≤ dr ∧ dr ≤ 140 → 0 ≤ lo ∧ lo ≤ 1 → 1 ≤ E ∧ E ≤ 9 → NumA (tE n N cy dr lo 0) → B2 (tE n N cy dr lo 0) = E →
  IntKind.i64.wrap (1 - 1 : Int) = 0 → IntKind.i64.wrap (2 - 1 : Int) = 1 → IntKind.i64.wrap (3 - 1 : Int) = 2 → IntKind.i64.wrap (4 - 1 : Int) = 3 → IntKind.i64.wrap (1 + 1 : Int) = 2 → IntKind.i64.wrap (2 + 1 : Int) = 3 → IntKind.i64.wrap (3 + 1 : Int) = 4 → Q (tE n N cy dr lo (3 * E))) : ∃ x, NumOK n x ∧ Q x := by
 obtain ⟨N, eN⟩ : ∃ N, m % 65536 = N := ⟨_, rfl⟩
 obtain ⟨cy, ecy⟩ : ∃ cy, 20000 + 1000 * (N / 16 % 8) = cy := ⟨_, rfl⟩
 obtain ⟨dr, edr⟩ : ∃ dr, 20 * (N / 128 % 8) = dr := ⟨_, rfl⟩
 obtain ⟨lo, elo⟩ : ∃ lo, N / 1024 % 2 = lo := ⟨_, rfl⟩
 have h1 : 20000 ≤ cy ∧ cy ≤ 27000 := by omega
 have h2 : 0 ≤ dr ∧ dr ≤ 140 := by omega
 have h3 : 0 ≤ lo ∧ lo ≤ 1 := by omega
 have h4 : 1 ≤ (n - 1) * (lo + 1) + 1 + N / 2048 % 4 ∧ (n - 1) * (lo + 1) + 1 + N / 2048 % 4 ≤ 10 ∧ n * (lo + 1) + 2 ≤ n * (lo + 1) + 2 + N / 8192 % 2 ∧ n * (lo + 1) + 2 + N / 8192 % 2 ≤ 12 ∧ (n - 1) * (lo + 1) + 1 ≤ (n - 1) * (lo + 1) + 1 + N / 2048 % 4 ∧ n * (lo + 1) + 2 ≤ 12 := by rcases hn with rfl | rfl | rfl | rfl <;> omega
 have hA : NumA (tE n N cy dr lo 0) := ⟨h1, h2, h3, h4.1, h4.2.1⟩
 exact ⟨tE n N cy dr lo (3 * B2 (tE n N cy dr lo 0)), ⟨h1, h2, rfl, h3, ⟨h4.2.2.2.2.1, h4.2.1⟩, ⟨h4.2.2.1, h4.2.2.2.1⟩, ⟨Int.le_refl _, h4.2.2.2.2.2⟩⟩, h N cy dr lo _ eN (by omega) ecy edr elo h1 h2 h3 (aF2 hA) hA rfl (by decide) (by decide) (by decide) (by decide) (by decide) (by decide) (by decide)⟩
end Go.Abs
