/- A part of the proof of RowAirFits, RowAirHeard, RowAirOrder, RowAirLost: lemmas alone, without conditions. -/
import Derived.Test.YtpcnjabfiahhhaaGreatDoorK29
set_option linter.all false
namespace Go.Abs
open Go.Proofs.YtpcnjabfiahhhaaGreatDoor
attribute [local irreducible] enL R RR dF cZ lV dE dG mP apply dB eI aX aZ cO aW fB aP aN cK bN gL cA V.rb V.rbL
def edgeC (c : Config) : Int := P0 (2 * c.drift * c.cycle) 1000000 + 1
def n5 (c : Config) : Int := P0 (c.drift * c.cycle) 1000000
def wR (c : Config) (p : Nat) : Int := (c.parts.getD p default).nodes
structure Net (c : Config) (P : Nat → List Port) (S : Nat → List Slot) : Prop where
 n1 : 1 ≤ c.parts.length ∧ c.parts.length ≤ 4
 chk : ∀ s H, Call tab s xY [c.v] H = some (.tup [.int .i64 0, .int .i64 0], H)
 rchk : ∀ s H, Call tab s cG [c.v] H = some (.tup [.int .i64 0, .int .i64 0], H)
 ends : ∀ s H (p : Nat), p < c.parts.length → Call tab s tV [c.v, .int .i64 (p : Int)] H = some (.sl (some 4) (P p).length (enL (P p)), H)
 lst : ∀ s H (p : Nat), p < c.parts.length → Call tab s xV [c.v, .int .i64 (p : Int), .sl none (P p).length (enL (P p))] H = some (.sl none (S p).length (enL (S p)), H)
 rprt : ∀ s H (p : Nat), p < c.parts.length → Call tab s xT [c.v, .int .i64 (p : Int)] H = some (.sl (some 4) (P p).length (enL (P p)), H)
 rcnt : ∀ s H (p : Nat), p < c.parts.length → Call tab s xZ [c.v, .int .i64 (p : Int)] H = some (.int .i64 (P p).length, H)
 room : ∀ (p : Nat), p < c.parts.length → 1 ≤ wR c p ∧ 3 * ((P p).length : Int) + wR c p ≤ 28
 cy : 20000 ≤ c.cycle ∧ c.cycle ≤ 27000
 dr : 0 ≤ c.drift ∧ c.drift ≤ 140
 ld : c.lead = 60
 sl : c.slot = 100
 rt : c.rate = 300000
 rm : c.room = 12
 wi : c.window = 3 * edgeC c
 lo : 0 ≤ c.lost ∧ c.lost ≤ 1
 ag : (c.parts.length - 1) * (c.lost + 1) + 1 ≤ c.ages ∧ c.ages ≤ 10
 li : c.parts.length * (c.lost + 1) + 2 ≤ c.listen ∧ c.listen ≤ 12
 sp : c.parts.length * (c.lost + 1) + 2 ≤ c.span ∧ c.span ≤ 12
theorem u9 {a b m n : Int} (ha : 0 ≤ a ∧ a ≤ m) (hb : 0 ≤ b ∧ b ≤ n) : 0 ≤ a * b ∧ a * b ≤ m * n :=
 ⟨Int.mul_nonneg ha.1 hb.1, Int.mul_le_mul ha.2 hb.2 hb.1 (by omega)⟩
set_option linter.unusedSectionVars false
section
variable {c : Config} {P : Nat → List Port} {S : Nat → List Slot} (h : Net c P S)
include h
theorem Net.m1 : 0 ≤ c.drift * c.cycle ∧ c.drift * c.cycle ≤ 3780000 := u9 h.dr ⟨by have := h.cy; omega, h.cy.2⟩
theorem Net.m2 : 2 * c.drift * c.cycle = 2 * (c.drift * c.cycle) := Int.mul_assoc ..
theorem Net.eb : 1 ≤ edgeC c ∧ edgeC c ≤ 9 := by
 have := h.m1
 have := h.m2
 unfold edgeC P0
 rw [if_pos (by decide)]
 omega
theorem Net.sb : 0 ≤ n5 c ∧ n5 c ≤ 4 := by
 have := h.m1
 unfold n5 P0
 rw [if_pos (by decide)]
 omega
theorem Net.pl : ((c.parts.length : Int) - 1) * (c.lost + 1) = (c.parts.length : Int) * (c.lost + 1) - (c.lost + 1) := by rw [Int.sub_mul, Int.one_mul]
theorem Net.pb : c.lost + 1 ≤ (c.parts.length : Int) * (c.lost + 1) ∧ (c.parts.length : Int) * (c.lost + 1) ≤ 8 := by
 have h1 := h.lo
 have h2 := h.n1
 have : c.lost = 0 ∨ c.lost = 1 := by omega
 rcases this with e | e <;> rw [e] <;> omega
end
theorem aTh {s : Option Nat} {H : aB} {n : Int} (hn : 0 ≤ n ∧ n ≤ 1000000000000) : Call tab s pZ [.int .i64 n] H = some (.int .i64 (P0 n 1000000), H) := by
 ((first | refine aC ?_ | skip); refine bE (cf := uT) rfl rfl rfl rfl ?_; unfold uT; dsimp only [aA, Nat.reduceAdd, Nat.zero_add])
 repeat' (first | refine aF ?_ | refine yc ?_ (ha := by first | exact aUy (by omega) | assumption) | refine sG (fun _ => ?_) fun _ => ?_ | refine aG ?_ | refine sH (fun _ => ?_) fun _ => ?_ | fail)
 rfl
theorem aTi {s : Option Nat} {H : aB} {n : Int} (hn : 0 ≤ n ∧ n ≤ 1000000000000) : Call tab s J9 [.int .i64 n] H = some (.int .i64 (P0 n 1000000), H) := by
 ((first | refine aC ?_ | skip); refine bE (cf := I4) rfl rfl rfl rfl ?_; unfold I4; dsimp only [aA, Nat.reduceAdd, Nat.zero_add])
 repeat' (first | refine aF ?_ | refine yc ?_ (ha := by first | exact aQw (by omega) | assumption) | refine sG (fun _ => ?_) fun _ => ?_ | refine aG ?_ | refine sH (fun _ => ?_) fun _ => ?_ | fail)
 rfl
theorem aK0 {s : Option Nat} {H : aB} {a b d : Int} : Call tab s bG [.int .i64 a, .int .i64 b, .int .i64 d] H = some (.bool (decide (b ≤ a ∧ a ≤ d)), H) := by
 ((first | refine aC ?_ | skip); refine bE (cf := qY) rfl rfl rfl rfl ?_; unfold qY; dsimp only [aA, Nat.reduceAdd, Nat.zero_add])
 repeat' (first | refine aF ?_ | refine yc ?_ | refine sG (fun _ => ?_) fun _ => ?_ | refine aG ?_ | refine sH (fun _ => ?_) fun _ => ?_ | fail)
 all_goals first | (with_reducible rfl) | (simp only [Option.some.injEq, Prod.mk.injEq, V.bool.injEq, V.tup.injEq, V.int.injEq, List.cons.injEq, and_true, true_and]; first | done | (rw [Bool.eq_iff_iff]; simp only [decide_eq_true_eq, Bool.false_eq_true, Bool.true_eq_false, false_iff, iff_false, true_iff, iff_true, Bool.not_eq_true, decide_eq_false_iff_not, Bool.and_eq_true, Bool.or_eq_true]; omega) | omega)
theorem aM7 {s : Option Nat} {H : aB} {n : Int} : Call tab s bY [.int .i64 n, .sl none 1 [.bool true]] H = some (.int .i64 0, H) := dU.2 ⟨20, by kernel_rfl⟩
theorem T5 {s : Option Nat} {H : aB} {n : Int} : Call tab s bY [.int .i64 n, .sl none 2 [.bool true, .bool true]] H = some (.int .i64 0, H) := dU.2 ⟨20, by kernel_rfl⟩
theorem aM8 {s : Option Nat} {H : aB} {n : Int} : Call tab s bY [.int .i64 n, .sl none 3 [.bool true, .bool true, .bool true]] H = some (.int .i64 0, H) := dU.2 ⟨20, by kernel_rfl⟩
theorem aM9 {s : Option Nat} {H : aB} {n : Int} : Call tab s bY [.int .i64 n, .sl none 5 [.bool true, .bool true, .bool true, .bool true, .bool true]] H = some (.int .i64 0, H) := dU.2 ⟨20, by kernel_rfl⟩
theorem aH0 {s : Option Nat} {H : aB} {a b d : Int} (h : b ≤ a ∧ a ≤ d) : Call tab s bG [.int .i64 a, .int .i64 b, .int .i64 d] H = some (.bool true, H) := by rw [aK0, decide_eq_true h]
section
variable {c : Config} {P : Nat → List Port} {S : Nat → List Slot} {s : Option Nat} {H : aB}
theorem aMa (h : Net c P S) : Call tab s yQ [c.v] H = some (.int .i64 0, H) := by
 have h1 := h.cy; have h2 := h.dr; have h3 := h.rt; have h4 := h.ag; have h5 := h.lo; have h6 := h.pb; have h7 := h.pl; have h8 := h.n1
 unfold Config.v
 ((first | refine aC ?_ | skip); refine bE (cf := qX) rfl rfl rfl rfl ?_; unfold qX; dsimp only [aA, Nat.reduceAdd, Nat.zero_add])
 repeat' (first | refine aF ?_ | refine yc ?_ (ha := by first | exact aH0 (by omega) | exact aM9 | assumption) | refine sG (fun _ => ?_) fun _ => ?_ | refine aG ?_ | refine sH (fun _ => ?_) fun _ => ?_ | fail)
 rfl
def oM (c : Config) : Int := 2 * (2 * edgeC c) + 2 * n5 c + 2
def B5 (c : Config) : Int := 2 * c.ages * oM c + 2 * (2 * edgeC c)
def aMb (c : Config) : Int := 2 * edgeC c + edgeC c + P0 (2 * edgeC c * (c.rate + c.drift)) 1000000 + 1
theorem Net.jb (h : Net c P S) : 0 ≤ 2 * c.ages * oM c ∧ 2 * c.ages * oM c ≤ 920 := by
 have h1 := h.eb; have h2 := h.sb; have h3 := h.ag; have h6 := h.pb; have h7 := h.pl; have h8 := h.n1; have h5 := h.lo
 have := u9 (a := 2 * c.ages) (b := oM c) (m := 20) (n := 46) (by omega) (by unfold oM; omega)
 omega
theorem Net.tb (h : Net c P S) : 0 ≤ 2 * edgeC c * (c.rate + c.drift) ∧ 2 * edgeC c * (c.rate + c.drift) ≤ 5402520 := by
 have h1 := h.eb; have h2 := h.dr; have h3 := h.rt
 have := u9 (a := 2 * edgeC c) (b := c.rate + c.drift) (m := 18) (n := 300140) (by omega) (by omega)
 omega
set_option maxHeartbeats 1000000 in
theorem aF9 (h : Net c P S) : Call tab s qZ [c.v] H = some (.agg [.int .i64 (edgeC c), .int .i64 (2 * edgeC c), .int .i64 (n5 c), .int .i64 (oM c), .int .i64 (B5 c), .int .i64 (aMb c), .int .i64 (c.ages + 1)], H) := by
 have h1 := h.eb; have h2 := h.sb; have h3 := h.ag; have h4 := h.m1; have h5 := h.m2; have h6 := h.pb; have h7 := h.pl; have h8 := h.n1; have h9 := h.dr; have ha := h.rt; have hb := h.jb; have hc := h.tb; have hd := h.lo
 have w1 : IntKind.i64.wrap (2 * c.drift * c.cycle) = 2 * c.drift * c.cycle := IntWalk.i64_in _ (by omega)
 have w2 : IntKind.i64.wrap (c.drift * c.cycle) = c.drift * c.cycle := IntWalk.i64_in _ (by omega)
 have w3 : IntKind.i64.wrap (P0 (2 * c.drift * c.cycle) 1000000 + 1) = edgeC c := IntWalk.i64_in _ (by have : edgeC c = P0 (2 * c.drift * c.cycle) 1000000 + 1 := rfl; omega)
 have w4 : IntKind.i64.wrap (2 * (2 * edgeC c) + 2 * n5 c + 2) = oM c := IntWalk.i64_in _ (by omega)
 have w5 : IntKind.i64.wrap (2 * c.ages * oM c) = 2 * c.ages * oM c := IntWalk.i64_in _ (by omega)
 have w6 : IntKind.i64.wrap (2 * c.ages * oM c + 2 * (2 * edgeC c)) = B5 c := IntWalk.i64_in _ (by omega)
 have w7 : IntKind.i64.wrap (2 * edgeC c * (c.rate + c.drift)) = 2 * edgeC c * (c.rate + c.drift) := IntWalk.i64_in _ (by omega)
 have e1 : n5 c = P0 (c.drift * c.cycle) 1000000 := rfl
 have e3 : 0 ≤ P0 (2 * edgeC c * (c.rate + c.drift)) 1000000 ∧ P0 (2 * edgeC c * (c.rate + c.drift)) 1000000 ≤ 6 := by unfold P0; rw [if_pos (by decide)]; omega
 have w8 : IntKind.i64.wrap (2 * edgeC c + edgeC c + P0 (2 * edgeC c * (c.rate + c.drift)) 1000000 + 1) = aMb c := IntWalk.i64_in _ (by omega)
 rw [e1] at w4 h2
 unfold Config.v
 ((first | refine aC ?_ | skip); refine bE (cf := qW) rfl rfl rfl rfl ?_; unfold qW; dsimp only [aA, Nat.reduceAdd, Nat.zero_add])
 repeat' (first | refine aF ?_ | refine yc ?_ (ha := by first | exact aTh (by omega) | assumption) | refine sG (fun _ => ?_) fun _ => ?_ | refine aG ?_ | refine sH (fun _ => ?_) fun _ => ?_ | fail)
 rfl
end
end Go.Abs
namespace Go.Abs
open Go.Proofs.YtpcnjabfiahhhaaGreatDoor
attribute [local irreducible] enL R RR dF cZ lV dE dG mP apply dB eI aX aZ cO aW fB aP aN cK bN gL cA V.rb V.rbL
section
variable {c : Config} {P : Nat → List Port} {S : Nat → List Slot} {s : Option Nat} {H : aB}
theorem aWq {l : List Part} {i : Nat} {x : Part} (h : l[i]? = some x) : (l.getD i default) = x := by rw [List.getD_eq_getElem?_getD, h]; rfl
set_option maxHeartbeats 1000000 in
theorem aP0 (h : Net c P S) : Call tab s g8 [c.v] H = some (.bool true, H) := by
 have hw := h.wi; have hl := h.ld; have hs := h.sl; have he := h.eb; have hc := h.cy
 have hen := h.ends; have hro := h.room; have hn1 := h.n1
 unfold Config.v at *
 ((first | refine aC ?_ | skip); refine bE (cf := sX) rfl rfl rfl rfl ?_; unfold sX; dsimp only [aA, Nat.reduceAdd, Nat.zero_add])
 repeat' (first | refine aF ?_ | refine yc ?_ | refine sG (fun _ => ?_) fun _ => ?_ | refine aG ?_ | refine sH (fun _ => ?_) fun _ => ?_ | fail)
 refine oK c.parts.length (fun i (_ : Unit) => [(8, .int .i64 i)]) (fun _ _ => _) (fun _ _ => True) ?_ ?_ () trivial
 ·intro i _ hi _ ih
  obtain ⟨x, hx⟩ := oZ hi
  have hr := hro i hi
  unfold wR at hr
  rw [aWq hx] at hr
  have hn := hen (some 0)
  have hil : (i : Int) < (c.parts.length : Int) := by omega
  have hwi : IntKind.i64.wrap ((i : Int) + 1) = ((i + 1 : Nat) : Int) := IntWalk.i64_in _ (by omega)
  have e1 : (3 * ((P i).length : Int) + x.nodes) * c.slot = (3 * ((P i).length : Int) + x.nodes) * 100 := by rw [hs]
  have w1 : IntKind.i64.wrap ((3 * ((P i).length : Int) + x.nodes) * c.slot) = (3 * ((P i).length : Int) + x.nodes) * 100 := by rw [e1]; exact IntWalk.i64_in _ (by omega)
  refine aJ (by dsimp only [eT, lk, Nat.reduceBEq, cond_true, cond_false, Option.getD_some, Option.getD_none]; first | done | exact rfl) ?_; refine aE ?_
  unfold pR
  repeat' (first | refine aF ?_ | refine yc ?_ (ha := by first | exact hen _ _ _ hi | assumption) | refine sG (fun _ => ?_) fun _ => ?_ | refine aG ?_ | refine sH (fun _ => ?_) fun _ => ?_ | fail)
  refine aR9 ?_
  exact ih () trivial
 ·intro _ _
  refine aJ (by dsimp only [eT, lk, Nat.reduceBEq, cond_true, cond_false, Option.getD_some, Option.getD_none]; first | done | exact rfl) ?_; refine aE ?_
  unfold pR
  repeat' (first | refine aF ?_ | refine yc ?_ | refine sG (fun _ => ?_) fun _ => ?_ | refine aG ?_ | refine sH (fun _ => ?_) fun _ => ?_ | fail)
  rfl
set_option maxHeartbeats 1000000 in
theorem aJe (h : Net c P S) : Call tab s vZ [c.v] H = some (.int .i64 0, H) := by
 have hw := h.wi; have hl := h.ld; have hs := h.sl; have he := h.eb; have hc := h.cy; have hr := h.rt; have hj := h.jb
 have hsl := fun s H => aP0 (s := s) (H := H) h
 have hre := fun s H => aF9 (s := s) (H := H) h
 have hjj : B5 c = 2 * c.ages * oM c + 2 * (2 * edgeC c) := rfl
 have e1 : c.rate * c.cycle = 300000 * c.cycle := by rw [hr]
 have w1 : IntKind.i64.wrap (c.rate * c.cycle) = 300000 * c.cycle := by rw [e1]; exact IntWalk.i64_in _ (by omega)
 have ht : decide (B5 c * 1000000 ≤ 300000 * c.cycle) = true := decide_eq_true (by omega)
 unfold Config.v at *
 ((first | refine aC ?_ | skip); refine bE (cf := pP) rfl rfl rfl rfl ?_; unfold pP; dsimp only [aA, Nat.reduceAdd, Nat.zero_add])
 repeat' (first | refine aF ?_ | refine yc ?_ (ha := by first | exact hsl _ _ | exact hre _ _ | exact aH0 (by omega) | exact aM7 | exact T5 | (rw [ht]; exact T5) | assumption) | refine sG (fun _ => ?_) fun _ => ?_ | refine aG ?_ | refine sH (fun _ => ?_) fun _ => ?_ | fail)
 rfl
theorem aJf {n : Int} {a b : Bool} (ha : a = true) (hb : b = true) : Call tab s bY [.int .i64 n, .sl none 2 [.bool a, .bool b]] H = some (.int .i64 0, H) := by rw [ha, hb]; exact T5
theorem aJg {n : Int} {a b d : Bool} (ha : a = true) (hb : b = true) (hd : d = true) : Call tab s bY [.int .i64 n, .sl none 3 [.bool a, .bool b, .bool d]] H = some (.int .i64 0, H) := by rw [ha, hb, hd]; exact aM8
set_option maxHeartbeats 1000000 in
theorem aP1 (h : Net c P S) : Call tab s g6 [c.v] H = some (.int .i64 0, H) := by
 have hp := h.pb; have hq := h.pl; have hn := h.n1; have hlo := h.lo; have hag := h.ag; have hli := h.li; have hsp := h.sp; have hrm := h.rm
 have w1 : IntKind.i64.wrap ((c.parts.length : Int) * (c.lost + 1)) = (c.parts.length : Int) * (c.lost + 1) := IntWalk.i64_in _ (by omega)
 have w2 : IntKind.i64.wrap (((c.parts.length : Int) - 1) * (c.lost + 1)) = ((c.parts.length : Int) - 1) * (c.lost + 1) := IntWalk.i64_in _ (by omega)
 have hps := u9 (a := (c.parts.length : Int)) (b := c.span) (m := 4) (n := 12) (by omega) (by omega)
 have w3 : IntKind.i64.wrap ((c.parts.length : Int) * c.span) = (c.parts.length : Int) * c.span := IntWalk.i64_in _ (by omega)
 unfold Config.v at *
 ((first | refine aC ?_ | skip); refine bE (cf := sW) rfl rfl rfl rfl ?_; unfold sW; dsimp only [aA, Nat.reduceAdd, Nat.zero_add])
 repeat' (first | refine aF ?_ | refine yc ?_ (ha := by first | exact aH0 (by omega) | exact aJg (decide_eq_true (by omega)) rfl rfl | exact aJf (decide_eq_true (by omega)) rfl | assumption) | refine sG (fun _ => ?_) fun _ => ?_ | refine aG ?_ | refine sH (fun _ => ?_) fun _ => ?_ | fail)
 rfl
end
end Go.Abs
namespace Go.Abs
open Go.Proofs.YtpcnjabfiahhhaaGreatDoor
theorem aXk {s : Option Nat} {H : aB} {t : TypeId} {i o : Nat} : apply s (.mif t) [.ptr i o] H = some (.ifc t (.ptr i o), H) := rfl
attribute [local irreducible] enL R RR dF cZ lV dE dG mP apply dB eI aX aZ cO aW fB aP aN cK bN gL cA V.rb V.rbL
section
variable {c : Config} {P : Nat → List Port} {S : Nat → List Slot} {s : Option Nat} {H : aB}
theorem aDd {id t : Nat} : Call tab s f9 [.nili, .ifc t (.ptr id 0)] H = some (.bool false, H) := dU.2 ⟨20, by kernel_rfl⟩
set_option maxHeartbeats 1000000 in
theorem aPo (h : Net c P S) : ∃ X, Call tab s vF [c.v] H = some (.nili, H ++ X) := by
 have h1 := fun s H => aMa (s := s) (H := H) h
 have h2 := fun s H => aJe (s := s) (H := H) h
 have h3 := fun s H => aP1 (s := s) (H := H) h
 refine ⟨[c.enc], ?_⟩
 show _ = some (V.nili, H ++ [[_, _, _, _, _, _, _, _, _, _, _, _, _]])
 unfold Config.v at *
 ((first | refine aC ?_ | skip); refine eE (cf := uS) rfl rfl rfl (by decide) ?_; unfold uS; dsimp only [aA, Nat.reduceAdd, Nat.zero_add])
 repeat' (first | refine aF ?_ | refine yc ?_ | (show zv; refine kF ?_) | (show zV; refine y_cav0 ?_) | refine sG (fun _ => ?_) fun _ => ?_ | refine aG ?_ | refine sH (fun _ => ?_) fun _ => ?_ | fail)
 refine aE ?_
 unfold yJ
 repeat' (first | refine aF ?_ | refine yc ?_ (ha := by first | exact h1 _ _ | assumption) | (show zv; refine kF ?_ (ha := by first | exact h1 _ _ | assumption)) | (show zV; refine y_cav0 ?_ (ha := by first | exact h1 _ _ | assumption)) | refine sG (fun _ => ?_) fun _ => ?_ | refine aG ?_ | refine sH (fun _ => ?_) fun _ => ?_ | fail)
 refine cV ?_
 refine aE ?_
 repeat' (first | refine aF ?_ | refine yc ?_ (ha := by first | exact h2 _ _ | assumption) | (show zv; refine kF ?_ (ha := by first | exact h2 _ _ | assumption)) | (show zV; refine y_cav0 ?_ (ha := by first | exact h2 _ _ | assumption)) | refine sG (fun _ => ?_) fun _ => ?_ | refine aG ?_ | refine sH (fun _ => ?_) fun _ => ?_ | fail)
 refine cV ?_
 refine aE ?_
 repeat' (first | refine aF ?_ | refine yc ?_ (ha := by first | exact h3 _ _ | assumption) | (show zv; refine kF ?_ (ha := by first | exact h3 _ _ | assumption)) | (show zV; refine y_cav0 ?_ (ha := by first | exact h3 _ _ | assumption)) | refine sG (fun _ => ?_) fun _ => ?_ | refine aG ?_ | refine sH (fun _ => ?_) fun _ => ?_ | fail)
 refine cV ?_
 refine aE ?_
 repeat' (first | refine aF ?_ | refine yc ?_ | (show zv; refine kF ?_) | (show zV; refine y_cav0 ?_) | refine sG (fun _ => ?_) fun _ => ?_ | refine aG ?_ | refine sH (fun _ => ?_) fun _ => ?_ | fail)
 rfl
set_option maxHeartbeats 1000000 in
theorem aMi (h : Net c P S) : Call tab s r5 [c.v] H = some (.tup [.int .i64 0, .int .i64 0], H) := by
 have h1 := h.chk
 obtain ⟨X, h2⟩ := aPo (s := some 0) (H := [c.enc]) h
 have h2 : Call tab (some 0) vF [c.v] ([] ++ [c.enc]) = some (.nili, ([] ++ [c.enc]) ++ X) := h2
 unfold Config.v Config.enc at *
 ((first | refine aC ?_ | skip); refine bE (cf := uP) rfl rfl rfl rfl ?_; unfold uP; dsimp only [aA, Nat.reduceAdd, Nat.zero_add])
 repeat' (first | refine aF ?_ | refine yc ?_ (ha := by first | exact h1 _ _ | exact h2 | assumption) | (show zv; refine kF ?_ (ha := by first | exact h1 _ _ | exact h2 | assumption)) | (show zV; refine y_cav0 ?_ (ha := by first | exact h1 _ _ | exact h2 | assumption)) | refine sG (fun _ => ?_) fun _ => ?_ | refine aG ?_ | refine sH (fun _ => ?_) fun _ => ?_ | fail)
 refine tF ?_ (ha := aXk)
 repeat' (first | refine aF ?_ | refine yc ?_ (ha := by first | exact aDd | assumption) | (show zv; refine kF ?_ (ha := by first | exact aDd | assumption)) | (show zV; refine y_cav0 ?_ (ha := by first | exact aDd | assumption)) | refine sG (fun _ => ?_) fun _ => ?_ | refine aG ?_ | refine sH (fun _ => ?_) fun _ => ?_ | fail)
 rfl
end
end Go.Abs
