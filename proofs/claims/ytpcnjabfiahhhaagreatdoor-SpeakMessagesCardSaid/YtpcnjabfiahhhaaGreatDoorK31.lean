/- A part of the proof of RowSpeakOffers, RowSpeakMessages: lemmas alone, without conditions. -/
import Derived.Test.YtpcnjabfiahhhaaGreatDoorK30
set_option linter.all false
namespace Go.Abs
open Go.Proofs.YtpcnjabfiahhhaaGreatDoor
attribute [local irreducible] enL R RR fP fB pX fK fQ pU apply fT gQ bW bZ eJ bR iL bG bD eC cR kD dO V.rb V.rbL
def edgeC (c : Config) : Int := uT (2 * c.drift * c.cycle) 1000000 + 1
def j0 (c : Config) : Int := uT (c.drift * c.cycle) 1000000
def aE0 (c : Config) (p : Nat) : Int := (c.parts.getD p default).nodes
structure Net (c : Config) (P : Nat → List Port) (S : Nat → List Slot) : Prop where
 n1 : 1 ≤ c.parts.length ∧ c.parts.length ≤ 4
 chk : ∀ s H, Call tab s eR [c.v] H = some (.tup [.int .i64 0, .int .i64 0], H)
 rchk : ∀ s H, Call tab s bS [c.v] H = some (.tup [.int .i64 0, .int .i64 0], H)
 ends : ∀ s H (p : Nat), p < c.parts.length → Call tab s bP [c.v, .int .i64 (p : Int)] H = some (.sl (some 4) (P p).length (enL (P p)), H)
 lst : ∀ s H (p : Nat), p < c.parts.length → Call tab s bK [c.v, .int .i64 (p : Int), .sl none (P p).length (enL (P p))] H = some (.sl none (S p).length (enL (S p)), H)
 rprt : ∀ s H (p : Nat), p < c.parts.length → Call tab s bJ [c.v, .int .i64 (p : Int)] H = some (.sl (some 4) (P p).length (enL (P p)), H)
 rcnt : ∀ s H (p : Nat), p < c.parts.length → Call tab s bL [c.v, .int .i64 (p : Int)] H = some (.int .i64 (P p).length, H)
 room : ∀ (p : Nat), p < c.parts.length → 1 ≤ aE0 c p ∧ 3 * ((P p).length : Int) + aE0 c p ≤ 28
 cy : 20000 ≤ c.cycle ∧ c.cycle ≤ 27000
 dr : 0 ≤ c.drift ∧ c.drift ≤ 140
 ld : c.lead = 60
 sl : c.slot = 100
 rt : c.rate = 300000
 rm : c.room = 12
 wi : c.window = 3 * edgeC c
 lo : 0 ≤ c.lost ∧ c.lost ≤ 1
 ag : (c.parts.length - 1) * (c.lost + 1) + 1 ≤ c.ages ∧ c.ages ≤ 10
 li : c.parts.length * (c.lost + 1) + 2 ≤ c.listen ∧ c.listen ≤ 12
 sp : c.parts.length * (c.lost + 1) + 2 ≤ c.span ∧ c.span ≤ 12
theorem n9 {a b m n : Int} (ha : 0 ≤ a ∧ a ≤ m) (hb : 0 ≤ b ∧ b ≤ n) : 0 ≤ a * b ∧ a * b ≤ m * n :=
 ⟨Int.mul_nonneg ha.1 hb.1, Int.mul_le_mul ha.2 hb.2 hb.1 (by omega)⟩
set_option linter.unusedSectionVars false
section
variable {c : Config} {P : Nat → List Port} {S : Nat → List Slot} (h : Net c P S)
include h
theorem Net.m1 : 0 ≤ c.drift * c.cycle ∧ c.drift * c.cycle ≤ 3780000 := n9 h.dr ⟨by have := h.cy; omega, h.cy.2⟩
theorem Net.m2 : 2 * c.drift * c.cycle = 2 * (c.drift * c.cycle) := Int.mul_assoc ..
theorem Net.eb : 1 ≤ edgeC c ∧ edgeC c ≤ 9 := by
 have := h.m1
 have := h.m2
 unfold edgeC uT
 rw [if_pos (by decide)]
 omega
theorem Net.sb : 0 ≤ j0 c ∧ j0 c ≤ 4 := by
 have := h.m1
 unfold j0 uT
 rw [if_pos (by decide)]
 omega
theorem Net.pl : ((c.parts.length : Int) - 1) * (c.lost + 1) = (c.parts.length : Int) * (c.lost + 1) - (c.lost + 1) := by rw [Int.sub_mul, Int.one_mul]
theorem Net.pb : c.lost + 1 ≤ (c.parts.length : Int) * (c.lost + 1) ∧ (c.parts.length : Int) * (c.lost + 1) ≤ 8 := by
 have h1 := h.lo
 have h2 := h.n1
 have : c.lost = 0 ∨ c.lost = 1 := by omega
 rcases this with e | e <;> rw [e] <;> omega
end
theorem aPy {s : Option Nat} {H : aC} {n : Int} (hn : 0 ≤ n ∧ n ≤ 1000000000000) : Call tab s pF [.int .i64 n] H = some (.int .i64 (uT n 1000000), H) := by
 ((first | refine aJ ?_ | skip); refine bX (cf := pR) rfl rfl rfl rfl ?_; unfold pR; dsimp only [aB, Nat.reduceAdd, Nat.zero_add])
 repeat' (first | refine aS ?_ | refine yc ?_ (ha := by first | exact aLg (by omega) | assumption) | (show zn; refine aA ?_ (ha := by first | exact aLg (by omega) | assumption)) | (show gA; first | refine aH (fun _ => ?_) fun _ => ?_ | refine gc_E (fun _ => ?_) fun _ => ?_ | refine gc_N (fun _ => ?_) fun _ => ?_ | refine aT ?_ | refine gc_B (fun _ => ?_) fun _ => ?_) | fail)
 rfl
theorem aL0 {s : Option Nat} {H : aC} {n : Int} (hn : 0 ≤ n ∧ n ≤ 1000000000000) : Call tab s A8 [.int .i64 n] H = some (.int .i64 (uT n 1000000), H) := by
 ((first | refine aJ ?_ | skip); refine bX (cf := zW) rfl rfl rfl rfl ?_; unfold zW; dsimp only [aB, Nat.reduceAdd, Nat.zero_add])
 repeat' (first | refine aS ?_ | refine yc ?_ (ha := by first | exact aId (by omega) | assumption) | (show zn; refine aA ?_ (ha := by first | exact aId (by omega) | assumption)) | (show gA; first | refine aH (fun _ => ?_) fun _ => ?_ | refine gc_E (fun _ => ?_) fun _ => ?_ | refine gc_N (fun _ => ?_) fun _ => ?_ | refine aT ?_ | refine gc_B (fun _ => ?_) fun _ => ?_) | fail)
 rfl
theorem aL1 {s : Option Nat} {H : aC} {a b d : Int} : Call tab s cE [.int .i64 a, .int .i64 b, .int .i64 d] H = some (.bool (decide (b ≤ a ∧ a ≤ d)), H) := by
 ((first | refine aJ ?_ | skip); refine bX (cf := mP) rfl rfl rfl rfl ?_; unfold mP; dsimp only [aB, Nat.reduceAdd, Nat.zero_add])
 repeat' (first | refine aS ?_ | refine yc ?_ | (show zn; refine aA ?_) | (show gA; first | refine aH (fun _ => ?_) fun _ => ?_ | refine gc_E (fun _ => ?_) fun _ => ?_ | refine gc_N (fun _ => ?_) fun _ => ?_ | refine aT ?_ | refine gc_B (fun _ => ?_) fun _ => ?_) | fail)
 all_goals first | (with_reducible rfl) | (simp only [Option.some.injEq, Prod.mk.injEq, V.bool.injEq, V.tup.injEq, V.int.injEq, List.cons.injEq, and_true, true_and]; first | done | (rw [Bool.eq_iff_iff]; simp only [decide_eq_true_eq, Bool.false_eq_true, Bool.true_eq_false, false_iff, iff_false, true_iff, iff_true, Bool.not_eq_true, decide_eq_false_iff_not, Bool.and_eq_true, Bool.or_eq_true]; omega) | omega)
theorem aGk {s : Option Nat} {H : aC} {n : Int} : Call tab s cT [.int .i64 n, .sl none 1 [.bool true]] H = some (.int .i64 0, H) := aD.2 ⟨20, by kernel_rfl⟩
theorem zE {s : Option Nat} {H : aC} {n : Int} : Call tab s cT [.int .i64 n, .sl none 2 [.bool true, .bool true]] H = some (.int .i64 0, H) := aD.2 ⟨20, by kernel_rfl⟩
theorem aPz {s : Option Nat} {H : aC} {n : Int} : Call tab s cT [.int .i64 n, .sl none 3 [.bool true, .bool true, .bool true]] H = some (.int .i64 0, H) := aD.2 ⟨20, by kernel_rfl⟩
theorem aGl {s : Option Nat} {H : aC} {n : Int} : Call tab s cT [.int .i64 n, .sl none 5 [.bool true, .bool true, .bool true, .bool true, .bool true]] H = some (.int .i64 0, H) := aD.2 ⟨20, by kernel_rfl⟩
theorem D0 {s : Option Nat} {H : aC} {a b d : Int} (h : b ≤ a ∧ a ≤ d) : Call tab s cE [.int .i64 a, .int .i64 b, .int .i64 d] H = some (.bool true, H) := by rw [aL1, decide_eq_true h]
section
variable {c : Config} {P : Nat → List Port} {S : Nat → List Slot} {s : Option Nat} {H : aC}
theorem aQ0 (h : Net c P S) : Call tab s xJ [c.v] H = some (.int .i64 0, H) := by
 have h1 := h.cy; have h2 := h.dr; have h3 := h.rt; have h4 := h.ag; have h5 := h.lo; have h6 := h.pb; have h7 := h.pl; have h8 := h.n1
 unfold Config.v
 ((first | refine aJ ?_ | skip); refine bX (cf := mO) rfl rfl rfl rfl ?_; unfold mO; dsimp only [aB, Nat.reduceAdd, Nat.zero_add])
 repeat' (first | refine aS ?_ | refine yc ?_ (ha := by first | exact D0 (by omega) | exact aGl | assumption) | (show zn; refine aA ?_ (ha := by first | exact D0 (by omega) | exact aGl | assumption)) | (show gA; first | refine aH (fun _ => ?_) fun _ => ?_ | refine gc_E (fun _ => ?_) fun _ => ?_ | refine gc_N (fun _ => ?_) fun _ => ?_ | refine aT ?_ | refine gc_B (fun _ => ?_) fun _ => ?_) | fail)
 rfl
def oH (c : Config) : Int := 2 * (2 * edgeC c) + 2 * j0 c + 2
def y8 (c : Config) : Int := 2 * c.ages * oH c + 2 * (2 * edgeC c)
def aQ1 (c : Config) : Int := 2 * edgeC c + edgeC c + uT (2 * edgeC c * (c.rate + c.drift)) 1000000 + 1
theorem Net.jb (h : Net c P S) : 0 ≤ 2 * c.ages * oH c ∧ 2 * c.ages * oH c ≤ 920 := by
 have h1 := h.eb; have h2 := h.sb; have h3 := h.ag; have h6 := h.pb; have h7 := h.pl; have h8 := h.n1; have h5 := h.lo
 have := n9 (a := 2 * c.ages) (b := oH c) (m := 20) (n := 46) (by omega) (by unfold oH; omega)
 omega
theorem Net.tb (h : Net c P S) : 0 ≤ 2 * edgeC c * (c.rate + c.drift) ∧ 2 * edgeC c * (c.rate + c.drift) ≤ 5402520 := by
 have h1 := h.eb; have h2 := h.dr; have h3 := h.rt
 have := n9 (a := 2 * edgeC c) (b := c.rate + c.drift) (m := 18) (n := 300140) (by omega) (by omega)
 omega
set_option maxHeartbeats 1000000 in
theorem aGm (h : Net c P S) : Call tab s qN [c.v] H = some (.agg [.int .i64 (edgeC c), .int .i64 (2 * edgeC c), .int .i64 (j0 c), .int .i64 (oH c), .int .i64 (y8 c), .int .i64 (aQ1 c), .int .i64 (c.ages + 1)], H) := by
 have h1 := h.eb; have h2 := h.sb; have h3 := h.ag; have h4 := h.m1; have h5 := h.m2; have h6 := h.pb; have h7 := h.pl; have h8 := h.n1; have h9 := h.dr; have ha := h.rt; have hb := h.jb; have hc := h.tb; have hd := h.lo
 have w1 : IntKind.i64.wrap (2 * c.drift * c.cycle) = 2 * c.drift * c.cycle := IntWalk.i64_in _ (by omega)
 have w2 : IntKind.i64.wrap (c.drift * c.cycle) = c.drift * c.cycle := IntWalk.i64_in _ (by omega)
 have w3 : IntKind.i64.wrap (uT (2 * c.drift * c.cycle) 1000000 + 1) = edgeC c := IntWalk.i64_in _ (by have : edgeC c = uT (2 * c.drift * c.cycle) 1000000 + 1 := rfl; omega)
 have w4 : IntKind.i64.wrap (2 * (2 * edgeC c) + 2 * j0 c + 2) = oH c := IntWalk.i64_in _ (by omega)
 have w5 : IntKind.i64.wrap (2 * c.ages * oH c) = 2 * c.ages * oH c := IntWalk.i64_in _ (by omega)
 have w6 : IntKind.i64.wrap (2 * c.ages * oH c + 2 * (2 * edgeC c)) = y8 c := IntWalk.i64_in _ (by omega)
 have w7 : IntKind.i64.wrap (2 * edgeC c * (c.rate + c.drift)) = 2 * edgeC c * (c.rate + c.drift) := IntWalk.i64_in _ (by omega)
 have e1 : j0 c = uT (c.drift * c.cycle) 1000000 := rfl
 have e3 : 0 ≤ uT (2 * edgeC c * (c.rate + c.drift)) 1000000 ∧ uT (2 * edgeC c * (c.rate + c.drift)) 1000000 ≤ 6 := by unfold uT; rw [if_pos (by decide)]; omega
 have w8 : IntKind.i64.wrap (2 * edgeC c + edgeC c + uT (2 * edgeC c * (c.rate + c.drift)) 1000000 + 1) = aQ1 c := IntWalk.i64_in _ (by omega)
 rw [e1] at w4 h2
 unfold Config.v
 ((first | refine aJ ?_ | skip); refine bX (cf := mN) rfl rfl rfl rfl ?_; unfold mN; dsimp only [aB, Nat.reduceAdd, Nat.zero_add])
 repeat' (first | refine aS ?_ | refine yc ?_ (ha := by first | exact aPy (by omega) | assumption) | (show zn; refine aA ?_ (ha := by first | exact aPy (by omega) | assumption)) | (show gA; first | refine aH (fun _ => ?_) fun _ => ?_ | refine gc_E (fun _ => ?_) fun _ => ?_ | refine gc_N (fun _ => ?_) fun _ => ?_ | refine aT ?_ | refine gc_B (fun _ => ?_) fun _ => ?_) | fail)
 rfl
end
end Go.Abs
namespace Go.Abs
open Go.Proofs.YtpcnjabfiahhhaaGreatDoor
attribute [local irreducible] enL R RR fP fB pX fK fQ pU apply fT gQ bW bZ eJ bR iL bG bD eC cR kD dO V.rb V.rbL
section
variable {c : Config} {P : Nat → List Port} {S : Nat → List Slot} {s : Option Nat} {H : aC}
theorem aXn {l : List Part} {i : Nat} {x : Part} (h : l[i]? = some x) : (l.getD i default) = x := by rw [List.getD_eq_getElem?_getD, h]; rfl
set_option maxHeartbeats 1000000 in
theorem aQx (h : Net c P S) : Call tab s yJ [c.v] H = some (.bool true, H) := by
 have hw := h.wi; have hl := h.ld; have hs := h.sl; have he := h.eb; have hc := h.cy
 have hen := h.ends; have hro := h.room; have hn1 := h.n1
 unfold Config.v at *
 ((first | refine aJ ?_ | skip); refine bX (cf := nY) rfl rfl rfl rfl ?_; unfold nY; dsimp only [aB, Nat.reduceAdd, Nat.zero_add])
 repeat' (first | refine aS ?_ | refine yc ?_ | (show zn; refine aA ?_) | (show gA; first | refine aH (fun _ => ?_) fun _ => ?_ | refine gc_E (fun _ => ?_) fun _ => ?_ | refine gc_N (fun _ => ?_) fun _ => ?_ | refine aT ?_ | refine gc_B (fun _ => ?_) fun _ => ?_) | fail)
 refine xU c.parts.length (fun i (_ : Unit) => [(8, .int .i64 i)]) (fun _ _ => _) (fun _ _ => True) ?_ ?_ () trivial
 ·intro i _ hi _ ih
  obtain ⟨x, hx⟩ := xT hi
  have hr := hro i hi
  unfold aE0 at hr
  rw [aXn hx] at hr
  have hn := hen (some 0)
  have hil : (i : Int) < (c.parts.length : Int) := by omega
  have hwi : IntKind.i64.wrap ((i : Int) + 1) = ((i + 1 : Nat) : Int) := IntWalk.i64_in _ (by omega)
  have e1 : (3 * ((P i).length : Int) + x.nodes) * c.slot = (3 * ((P i).length : Int) + x.nodes) * 100 := by rw [hs]
  have w1 : IntKind.i64.wrap ((3 * ((P i).length : Int) + x.nodes) * c.slot) = (3 * ((P i).length : Int) + x.nodes) * 100 := by rw [e1]; exact IntWalk.i64_in _ (by omega)
  refine cD (by dsimp only [pN, lk, Nat.reduceBEq, cond_true, cond_false, Option.getD_some, Option.getD_none]; first | done | exact rfl) ?_; refine aY ?_
  unfold oU
  repeat' (first | refine aS ?_ | refine yc ?_ (ha := by first | exact hen _ _ _ hi | assumption) | (show zn; refine aA ?_ (ha := by first | exact hen _ _ _ hi | assumption)) | (show gA; first | refine aH (fun _ => ?_) fun _ => ?_ | refine gc_E (fun _ => ?_) fun _ => ?_ | refine gc_N (fun _ => ?_) fun _ => ?_ | refine aT ?_ | refine gc_B (fun _ => ?_) fun _ => ?_) | fail)
  refine bCz ?_
  exact ih () trivial
 ·intro _ _
  refine cD (by dsimp only [pN, lk, Nat.reduceBEq, cond_true, cond_false, Option.getD_some, Option.getD_none]; first | done | exact rfl) ?_; refine aY ?_
  unfold oU
  repeat' (first | refine aS ?_ | refine yc ?_ | (show zn; refine aA ?_) | (show gA; first | refine aH (fun _ => ?_) fun _ => ?_ | refine gc_E (fun _ => ?_) fun _ => ?_ | refine gc_N (fun _ => ?_) fun _ => ?_ | refine aT ?_ | refine gc_B (fun _ => ?_) fun _ => ?_) | fail)
  rfl
set_option maxHeartbeats 1000000 in
theorem aJy (h : Net c P S) : Call tab s uW [c.v] H = some (.int .i64 0, H) := by
 have hw := h.wi; have hl := h.ld; have hs := h.sl; have he := h.eb; have hc := h.cy; have hr := h.rt; have hj := h.jb
 have hsl := fun s H => aQx (s := s) (H := H) h
 have hre := fun s H => aGm (s := s) (H := H) h
 have hjj : y8 c = 2 * c.ages * oH c + 2 * (2 * edgeC c) := rfl
 have e1 : c.rate * c.cycle = 300000 * c.cycle := by rw [hr]
 have w1 : IntKind.i64.wrap (c.rate * c.cycle) = 300000 * c.cycle := by rw [e1]; exact IntWalk.i64_in _ (by omega)
 have ht : decide (y8 c * 1000000 ≤ 300000 * c.cycle) = true := decide_eq_true (by omega)
 unfold Config.v at *
 ((first | refine aJ ?_ | skip); refine bX (cf := lR) rfl rfl rfl rfl ?_; unfold lR; dsimp only [aB, Nat.reduceAdd, Nat.zero_add])
 repeat' (first | refine aS ?_ | refine yc ?_ (ha := by first | exact hsl _ _ | exact hre _ _ | exact D0 (by omega) | exact aGk | exact zE | (rw [ht]; exact zE) | assumption) | (show zn; refine aA ?_ (ha := by first | exact hsl _ _ | exact hre _ _ | exact D0 (by omega) | exact aGk | exact zE | (rw [ht]; exact zE) | assumption)) | (show gA; first | refine aH (fun _ => ?_) fun _ => ?_ | refine gc_E (fun _ => ?_) fun _ => ?_ | refine gc_N (fun _ => ?_) fun _ => ?_ | refine aT ?_ | refine gc_B (fun _ => ?_) fun _ => ?_) | fail)
 rfl
theorem aB3 {n : Int} {a b : Bool} (ha : a = true) (hb : b = true) : Call tab s cT [.int .i64 n, .sl none 2 [.bool a, .bool b]] H = some (.int .i64 0, H) := by rw [ha, hb]; exact zE
theorem aB4 {n : Int} {a b d : Bool} (ha : a = true) (hb : b = true) (hd : d = true) : Call tab s cT [.int .i64 n, .sl none 3 [.bool a, .bool b, .bool d]] H = some (.int .i64 0, H) := by rw [ha, hb, hd]; exact aPz
set_option maxHeartbeats 1000000 in
theorem aQy (h : Net c P S) : Call tab s yI [c.v] H = some (.int .i64 0, H) := by
 have hp := h.pb; have hq := h.pl; have hn := h.n1; have hlo := h.lo; have hag := h.ag; have hli := h.li; have hsp := h.sp; have hrm := h.rm
 have w1 : IntKind.i64.wrap ((c.parts.length : Int) * (c.lost + 1)) = (c.parts.length : Int) * (c.lost + 1) := IntWalk.i64_in _ (by omega)
 have w2 : IntKind.i64.wrap (((c.parts.length : Int) - 1) * (c.lost + 1)) = ((c.parts.length : Int) - 1) * (c.lost + 1) := IntWalk.i64_in _ (by omega)
 have hps := n9 (a := (c.parts.length : Int)) (b := c.span) (m := 4) (n := 12) (by omega) (by omega)
 have w3 : IntKind.i64.wrap ((c.parts.length : Int) * c.span) = (c.parts.length : Int) * c.span := IntWalk.i64_in _ (by omega)
 unfold Config.v at *
 ((first | refine aJ ?_ | skip); refine bX (cf := nX) rfl rfl rfl rfl ?_; unfold nX; dsimp only [aB, Nat.reduceAdd, Nat.zero_add])
 repeat' (first | refine aS ?_ | refine yc ?_ (ha := by first | exact D0 (by omega) | exact aB4 (decide_eq_true (by omega)) rfl rfl | exact aB3 (decide_eq_true (by omega)) rfl | assumption) | (show zn; refine aA ?_ (ha := by first | exact D0 (by omega) | exact aB4 (decide_eq_true (by omega)) rfl rfl | exact aB3 (decide_eq_true (by omega)) rfl | assumption)) | (show gA; first | refine aH (fun _ => ?_) fun _ => ?_ | refine gc_E (fun _ => ?_) fun _ => ?_ | refine gc_N (fun _ => ?_) fun _ => ?_ | refine aT ?_ | refine gc_B (fun _ => ?_) fun _ => ?_) | fail)
 rfl
end
end Go.Abs
namespace Go.Abs
open Go.Proofs.YtpcnjabfiahhhaaGreatDoor
theorem bBb {s : Option Nat} {H : aC} {t : TypeId} {i o : Nat} : apply s (.mif t) [.ptr i o] H = some (.ifc t (.ptr i o), H) := rfl
attribute [local irreducible] enL R RR fP fB pX fK fQ pU apply fT gQ bW bZ eJ bR iL bG bD eC cR kD dO V.rb V.rbL
section
variable {c : Config} {P : Nat → List Port} {S : Nat → List Slot} {s : Option Nat} {H : aC}
theorem L9 {id t : Nat} : Call tab s yF [.nili, .ifc t (.ptr id 0)] H = some (.bool false, H) := aD.2 ⟨20, by kernel_rfl⟩
set_option maxHeartbeats 1000000 in
theorem aSq (h : Net c P S) : ∃ X, Call tab s uI [c.v] H = some (.nili, H ++ X) := by
 have h1 := fun s H => aQ0 (s := s) (H := H) h
 have h2 := fun s H => aJy (s := s) (H := H) h
 have h3 := fun s H => aQy (s := s) (H := H) h
 refine ⟨[c.enc], ?_⟩
 show _ = some (V.nili, H ++ [[_, _, _, _, _, _, _, _, _, _, _, _, _]])
 unfold Config.v at *
 ((first | refine aJ ?_ | skip); refine aKp (cf := pQ) rfl rfl rfl (by decide) ?_; unfold pQ; dsimp only [aB, Nat.reduceAdd, Nat.zero_add])
 repeat' (first | refine aS ?_ | refine yc ?_ | (show zn; refine aA ?_) | (show zv; refine fA ?_) | (show zV; refine y_cav0 ?_) | (show gA; first | refine aH (fun _ => ?_) fun _ => ?_ | refine gc_E (fun _ => ?_) fun _ => ?_ | refine gc_N (fun _ => ?_) fun _ => ?_ | refine aT ?_ | refine gc_B (fun _ => ?_) fun _ => ?_) | fail)
 refine aY ?_
 unfold xQ
 repeat' (first | refine aS ?_ | refine yc ?_ (ha := by first | exact h1 _ _ | assumption) | (show zn; refine aA ?_ (ha := by first | exact h1 _ _ | assumption)) | (show zv; refine fA ?_ (ha := by first | exact h1 _ _ | assumption)) | (show zV; refine y_cav0 ?_ (ha := by first | exact h1 _ _ | assumption)) | (show gA; first | refine aH (fun _ => ?_) fun _ => ?_ | refine gc_E (fun _ => ?_) fun _ => ?_ | refine gc_N (fun _ => ?_) fun _ => ?_ | refine aT ?_ | refine gc_B (fun _ => ?_) fun _ => ?_) | fail)
 refine jQ ?_
 refine aY ?_
 repeat' (first | refine aS ?_ | refine yc ?_ (ha := by first | exact h2 _ _ | assumption) | (show zn; refine aA ?_ (ha := by first | exact h2 _ _ | assumption)) | (show zv; refine fA ?_ (ha := by first | exact h2 _ _ | assumption)) | (show zV; refine y_cav0 ?_ (ha := by first | exact h2 _ _ | assumption)) | (show gA; first | refine aH (fun _ => ?_) fun _ => ?_ | refine gc_E (fun _ => ?_) fun _ => ?_ | refine gc_N (fun _ => ?_) fun _ => ?_ | refine aT ?_ | refine gc_B (fun _ => ?_) fun _ => ?_) | fail)
 refine jQ ?_
 refine aY ?_
 repeat' (first | refine aS ?_ | refine yc ?_ (ha := by first | exact h3 _ _ | assumption) | (show zn; refine aA ?_ (ha := by first | exact h3 _ _ | assumption)) | (show zv; refine fA ?_ (ha := by first | exact h3 _ _ | assumption)) | (show zV; refine y_cav0 ?_ (ha := by first | exact h3 _ _ | assumption)) | (show gA; first | refine aH (fun _ => ?_) fun _ => ?_ | refine gc_E (fun _ => ?_) fun _ => ?_ | refine gc_N (fun _ => ?_) fun _ => ?_ | refine aT ?_ | refine gc_B (fun _ => ?_) fun _ => ?_) | fail)
 refine jQ ?_
 refine aY ?_
 repeat' (first | refine aS ?_ | refine yc ?_ | (show zn; refine aA ?_) | (show zv; refine fA ?_) | (show zV; refine y_cav0 ?_) | (show gA; first | refine aH (fun _ => ?_) fun _ => ?_ | refine gc_E (fun _ => ?_) fun _ => ?_ | refine gc_N (fun _ => ?_) fun _ => ?_ | refine aT ?_ | refine gc_B (fun _ => ?_) fun _ => ?_) | fail)
 rfl
set_option maxHeartbeats 1000000 in
theorem aPb (h : Net c P S) : Call tab s g5 [c.v] H = some (.tup [.int .i64 0, .int .i64 0], H) := by
 have h1 := h.chk
 obtain ⟨X, h2⟩ := aSq (s := some 0) (H := [c.enc]) h
 have h2 : Call tab (some 0) uI [c.v] ([] ++ [c.enc]) = some (.nili, ([] ++ [c.enc]) ++ X) := h2
 unfold Config.v Config.enc at *
 ((first | refine aJ ?_ | skip); refine bX (cf := pJ) rfl rfl rfl rfl ?_; unfold pJ; dsimp only [aB, Nat.reduceAdd, Nat.zero_add])
 repeat' (first | refine aS ?_ | refine yc ?_ (ha := by first | exact h1 _ _ | exact h2 | assumption) | (show zn; refine aA ?_ (ha := by first | exact h1 _ _ | exact h2 | assumption)) | (show zv; refine fA ?_ (ha := by first | exact h1 _ _ | exact h2 | assumption)) | (show zV; refine y_cav0 ?_ (ha := by first | exact h1 _ _ | exact h2 | assumption)) | (show gA; first | refine aH (fun _ => ?_) fun _ => ?_ | refine gc_E (fun _ => ?_) fun _ => ?_ | refine gc_N (fun _ => ?_) fun _ => ?_ | refine aT ?_ | refine gc_B (fun _ => ?_) fun _ => ?_) | fail)
 refine d8 ?_ (ha := bBb)
 repeat' (first | refine aS ?_ | refine yc ?_ (ha := by first | exact L9 | assumption) | (show zn; refine aA ?_ (ha := by first | exact L9 | assumption)) | (show zv; refine fA ?_ (ha := by first | exact L9 | assumption)) | (show zV; refine y_cav0 ?_ (ha := by first | exact L9 | assumption)) | (show gA; first | refine aH (fun _ => ?_) fun _ => ?_ | refine gc_E (fun _ => ?_) fun _ => ?_ | refine gc_N (fun _ => ?_) fun _ => ?_ | refine aT ?_ | refine gc_B (fun _ => ?_) fun _ => ?_) | fail)
 rfl
end
end Go.Abs
