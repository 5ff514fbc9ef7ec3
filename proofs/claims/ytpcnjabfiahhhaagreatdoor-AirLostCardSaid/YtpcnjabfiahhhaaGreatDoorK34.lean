/- A part of the proof of RowAirFits, RowAirHeard, RowAirOrder, RowAirLost: lemmas alone, without conditions. -/
import Derived.Test.YtpcnjabfiahhhaaGreatDoorK33
import Derived.Test.YtpcnjabfiahhhaaGreatDoorK23
import Derived.Test.YtpcnjabfiahhhaaGreatDoorK26
set_option linter.all false
namespace Go.Abs
open Go.Proofs.YtpcnjabfiahhhaaGreatDoor
attribute [local irreducible] enL R RR dF cZ lV dE dG mP apply dB eI aX aZ cO aW fB aP aN cK bN gL cA V.rb V.rbL
def PortR (c : Config) (P : Nat → List Port) : Prop := ∀ s H (p : Nat) (n : Int), p < c.parts.length → Call tab s tT [c.v, .int .i64 c.links.length, .int .i64 (p : Int), .int .i64 n] H = some (qB (P p) n, H)
def aJ2 (n : Int) (o : Option Port) : V := match o with
 | none => .tup [port0.v, .bool false]
 | some q => .tup [q.v, .bool true]
theorem i6 {α : Type} {p : α → Bool} : ∀ (l : List α) (n : Nat), (l.find? p = none ∧ yS p l n = -1) ∨ ∃ j x, l[j]? = some x ∧ l.find? p = some x ∧ yS p l n = ((n + j : Nat) : Int)
 | [], n => .inl ⟨rfl, rfl⟩
 | x :: l, n => by
   cases h : p x
   ·rw [wO h, List.find?_cons_of_neg (by simp [h])]
    rcases i6 l (n + 1) with ⟨h1, h2⟩ | ⟨j, y, h1, h2, h3⟩
    ·exact .inl ⟨h1, h2⟩
    ·exact .inr ⟨j + 1, y, by simpa using h1, h2, by rw [h3]; congr 1; omega⟩
   ·exact .inr ⟨0, x, rfl, by rw [List.find?_cons_of_pos h], by rw [rH h]; rfl⟩
theorem aQz (l : List Port) (n : Int) : qB l n = aJ2 n (l.find? (iF n)) := by
 unfold qB aJ2 gU
 rcases i6 (p := iF n) l 0 with ⟨h1, h2⟩ | ⟨j, x, h1, h2, h3⟩
 ·rw [h1, h2]; rfl
 ·rw [h2, h3, if_neg (by omega), Int.toNat_natCast, Nat.zero_add, List.getD_eq_getElem?_getD, h1]; rfl
theorem F2 {n : Int} {q : Port} (h : q.node = n) : iF n q = true := by simp [iF, h]
set_option maxHeartbeats 4000000 in
theorem aO8 {c : Config} (hl : c.links.length ≤ 10) (hab : ∀ x ∈ c.links, ¬ x.a = x.b) : PortR c (fun p => y0 p c.links 0) := by
 intro s H p n hp
 rw [aQz]
 generalize hL : c.links = L at *
 have w1 : IntKind.i64.wrap (0 + 1 : Int) = 1 := by decide
 have w2 : IntKind.i64.wrap (1 + 1 : Int) = 2 := by decide
 have hp' : p < c.parts.length := hp
 unfold Config.v
 rw [hL]
 ((first | refine aC ?_ | skip); refine bE (cf := zP) rfl rfl rfl rfl ?_; unfold zP; dsimp only [aA, Nat.reduceAdd, Nat.zero_add])
 repeat' (first | refine aF ?_ | refine yc ?_ | refine sG (fun _ => ?_) fun _ => ?_ | refine aG ?_ | refine sH (fun _ => ?_) fun _ => ?_ | fail)
 refine oK L.length (fun i (_ : Unit) => [(10, .int .i64 i)]) (fun _ _ => _) (fun i _ => aJ2 n ((y0 p L 0).find? (iF n)) = aJ2 n ((y0 p (L.drop i) i).find? (iF n))) ?_ ?_ () rfl
 ·intro i _ hi hq ih
  obtain ⟨x, hx⟩ := oZ hi
  have hne := hab x (List.mem_of_getElem? hx)
  rw [oH hx, y0, List.find?_append] at hq
  have hil : (i : Int) < (L.length : Int) := by omega
  have hwi : IntKind.i64.wrap ((i : Int) + 1) = ((i + 1 : Nat) : Int) := IntWalk.i64_in _ (by omega)
  by_cases h1 : x.a = p
  ·have h2 : ¬ x.b = p := fun e => hne (h1.trans e.symm)
   rw [if_pos h1] at hq
   by_cases h3 : x.pa0 = n
   ·rw [List.find?_cons_of_pos (F2 h3)] at hq
    refine aJ (by dsimp only [eT, lk, Nat.reduceBEq, cond_true, cond_false, Option.getD_some, Option.getD_none]; first | done | exact rfl) ?_; refine aE ?_
    unfold dZ
    repeat' (first | refine aF ?_ | refine yc ?_ | refine sG (fun _ => ?_) fun _ => ?_ | refine aG ?_ | refine sH (fun _ => ?_) fun _ => ?_ | fail)
    refine aE ?_
    unfold fA
    repeat' (first | refine aF ?_ | refine yc ?_ | refine sG (fun _ => ?_) fun _ => ?_ | refine aG ?_ | refine sH (fun _ => ?_) fun _ => ?_ | fail)
    rw [hq, ← h3]; rfl
   ·rw [List.find?_cons_of_neg (by simpa [iF] using h3)] at hq
    by_cases h4 : x.pa1 = n
    ·rw [List.find?_cons_of_pos (F2 h4)] at hq
     refine aJ (by dsimp only [eT, lk, Nat.reduceBEq, cond_true, cond_false, Option.getD_some, Option.getD_none]; first | done | exact rfl) ?_; refine aE ?_
     unfold dZ
     repeat' (first | refine aF ?_ | refine yc ?_ | refine sG (fun _ => ?_) fun _ => ?_ | refine aG ?_ | refine sH (fun _ => ?_) fun _ => ?_ | fail)
     refine aE ?_
     unfold fA
     repeat' (first | refine aF ?_ | refine yc ?_ | refine sG (fun _ => ?_) fun _ => ?_ | refine aG ?_ | refine sH (fun _ => ?_) fun _ => ?_ | fail)
     refine cV ?_
     refine aE ?_
     repeat' (first | refine aF ?_ | refine yc ?_ | refine sG (fun _ => ?_) fun _ => ?_ | refine aG ?_ | refine sH (fun _ => ?_) fun _ => ?_ | fail)
     rw [hq, ← h4]; rfl
    ·rw [List.find?_cons_of_neg (by simpa [iF] using h4), List.find?_nil, Option.none_or] at hq
     refine aJ (by dsimp only [eT, lk, Nat.reduceBEq, cond_true, cond_false, Option.getD_some, Option.getD_none]; first | done | exact rfl) ?_; refine aE ?_
     unfold dZ
     repeat' (first | refine aF ?_ | refine yc ?_ | refine sG (fun _ => ?_) fun _ => ?_ | refine aG ?_ | refine sH (fun _ => ?_) fun _ => ?_ | fail)
     refine aE ?_
     unfold fA
     repeat' (first | refine aF ?_ | refine yc ?_ | refine sG (fun _ => ?_) fun _ => ?_ | refine aG ?_ | refine sH (fun _ => ?_) fun _ => ?_ | fail)
     refine cV ?_
     refine aE ?_
     repeat' (first | refine aF ?_ | refine yc ?_ | refine sG (fun _ => ?_) fun _ => ?_ | refine aG ?_ | refine sH (fun _ => ?_) fun _ => ?_ | fail)
     refine cV ?_
     refine aE ?_
     repeat' (first | refine aF ?_ | refine yc ?_ | refine sG (fun _ => ?_) fun _ => ?_ | refine aG ?_ | refine sH (fun _ => ?_) fun _ => ?_ | fail)
     refine aR9 ?_
     exact ih () hq
  ·rw [if_neg h1] at hq
   by_cases h2 : x.b = p
   ·rw [if_pos h2] at hq
    by_cases h3 : x.pb0 = n
    ·rw [List.find?_cons_of_pos (F2 h3)] at hq
     refine aJ (by dsimp only [eT, lk, Nat.reduceBEq, cond_true, cond_false, Option.getD_some, Option.getD_none]; first | done | exact rfl) ?_; refine aE ?_
     unfold dZ
     repeat' (first | refine aF ?_ | refine yc ?_ | refine sG (fun _ => ?_) fun _ => ?_ | refine aG ?_ | refine sH (fun _ => ?_) fun _ => ?_ | fail)
     refine aE ?_
     unfold fA
     repeat' (first | refine aF ?_ | refine yc ?_ | refine sG (fun _ => ?_) fun _ => ?_ | refine aG ?_ | refine sH (fun _ => ?_) fun _ => ?_ | fail)
     rw [hq, ← h3]; rfl
    ·rw [List.find?_cons_of_neg (by simpa [iF] using h3)] at hq
     by_cases h4 : x.pb1 = n
     ·rw [List.find?_cons_of_pos (F2 h4)] at hq
      refine aJ (by dsimp only [eT, lk, Nat.reduceBEq, cond_true, cond_false, Option.getD_some, Option.getD_none]; first | done | exact rfl) ?_; refine aE ?_
      unfold dZ
      repeat' (first | refine aF ?_ | refine yc ?_ | refine sG (fun _ => ?_) fun _ => ?_ | refine aG ?_ | refine sH (fun _ => ?_) fun _ => ?_ | fail)
      refine aE ?_
      unfold fA
      repeat' (first | refine aF ?_ | refine yc ?_ | refine sG (fun _ => ?_) fun _ => ?_ | refine aG ?_ | refine sH (fun _ => ?_) fun _ => ?_ | fail)
      refine cV ?_
      refine aE ?_
      repeat' (first | refine aF ?_ | refine yc ?_ | refine sG (fun _ => ?_) fun _ => ?_ | refine aG ?_ | refine sH (fun _ => ?_) fun _ => ?_ | fail)
      rw [hq, ← h4]; rfl
     ·rw [List.find?_cons_of_neg (by simpa [iF] using h4), List.find?_nil, Option.none_or] at hq
      refine aJ (by dsimp only [eT, lk, Nat.reduceBEq, cond_true, cond_false, Option.getD_some, Option.getD_none]; first | done | exact rfl) ?_; refine aE ?_
      unfold dZ
      repeat' (first | refine aF ?_ | refine yc ?_ | refine sG (fun _ => ?_) fun _ => ?_ | refine aG ?_ | refine sH (fun _ => ?_) fun _ => ?_ | fail)
      refine aE ?_
      unfold fA
      repeat' (first | refine aF ?_ | refine yc ?_ | refine sG (fun _ => ?_) fun _ => ?_ | refine aG ?_ | refine sH (fun _ => ?_) fun _ => ?_ | fail)
      refine cV ?_
      refine aE ?_
      repeat' (first | refine aF ?_ | refine yc ?_ | refine sG (fun _ => ?_) fun _ => ?_ | refine aG ?_ | refine sH (fun _ => ?_) fun _ => ?_ | fail)
      refine cV ?_
      refine aE ?_
      repeat' (first | refine aF ?_ | refine yc ?_ | refine sG (fun _ => ?_) fun _ => ?_ | refine aG ?_ | refine sH (fun _ => ?_) fun _ => ?_ | fail)
      refine aR9 ?_
      exact ih () hq
   ·rw [if_neg h2, List.find?_nil, Option.none_or] at hq
    refine aJ (by dsimp only [eT, lk, Nat.reduceBEq, cond_true, cond_false, Option.getD_some, Option.getD_none]; first | done | exact rfl) ?_; refine aE ?_
    unfold dZ
    repeat' (first | refine aF ?_ | refine yc ?_ | refine sG (fun _ => ?_) fun _ => ?_ | refine aG ?_ | refine sH (fun _ => ?_) fun _ => ?_ | fail)
    refine aE ?_
    unfold fA
    repeat' (first | refine aF ?_ | refine yc ?_ | refine sG (fun _ => ?_) fun _ => ?_ | refine aG ?_ | refine sH (fun _ => ?_) fun _ => ?_ | fail)
    refine cV ?_
    refine aE ?_
    repeat' (first | refine aF ?_ | refine yc ?_ | refine sG (fun _ => ?_) fun _ => ?_ | refine aG ?_ | refine sH (fun _ => ?_) fun _ => ?_ | fail)
    refine cV ?_
    refine aE ?_
    repeat' (first | refine aF ?_ | refine yc ?_ | refine sG (fun _ => ?_) fun _ => ?_ | refine aG ?_ | refine sH (fun _ => ?_) fun _ => ?_ | fail)
    refine aR9 ?_
    exact ih () hq
 ·intro _ hq
  rw [List.drop_length] at hq
  refine aJ (by dsimp only [eT, lk, Nat.reduceBEq, cond_true, cond_false, Option.getD_some, Option.getD_none]; first | done | exact rfl) ?_; refine aE ?_
  unfold dZ
  repeat' (first | refine aF ?_ | refine yc ?_ | refine sG (fun _ => ?_) fun _ => ?_ | refine aG ?_ | refine sH (fun _ => ?_) fun _ => ?_ | fail)
  rw [hq]; rfl
theorem aJ3 {c : Config} {P : Nat → List Port} {S : Nat → List Slot} (h : Net c P S) (hR : PortR c P) {s : Option Nat} {H : aB} {p : Nat} {n : Int} (hp : p < c.parts.length) : Call tab s d8 [c.v, .int .i64 (p : Int), .int .i64 n] H = some (qB (P p) n, H) := by
 have hg := fun s H => aI4 (s := s) (H := H) h (p := (p : Int))
 rw [decide_eq_true (show 0 ≤ (p : Int) ∧ (p : Int) < c.parts.length by omega)] at hg
 have hr := fun s H => hR s H p n hp
 obtain ⟨y, b, e⟩ : ∃ (y : Port) (b : Bool), qB (P p) n = .tup [y.v, .bool b] := by
  unfold qB; split
  ·exact ⟨_, _, rfl⟩
  ·exact ⟨_, _, rfl⟩
 rw [e] at hr ⊢
 unfold Config.v Port.v at *
 ((first | refine aC ?_ | skip); refine bE (cf := zM) rfl rfl rfl rfl ?_; unfold zM; dsimp only [aA, Nat.reduceAdd, Nat.zero_add])
 repeat' (first | refine aF ?_ | refine yc ?_ (ha := by first | exact hg _ _ | exact hr _ _ | assumption) | refine sG (fun _ => ?_) fun _ => ?_ | refine aG ?_ | refine sH (fun _ => ?_) fun _ => ?_ | fail)
 rfl
end Go.Abs
namespace Go.Abs
abbrev vR := Except Int (List UInt8)
def nx {α : Type} (r : vR) (f : Rd α) : vR := match r with
 | .error k => .error k
 | .ok l => match f l with
   | .ok (_, m) => .ok m
   | .error k => .error k
def Vl {α : Type} (r : vR) (f : Rd α) (v : α) : Prop := ∀ l n m, r = .ok l → f l = .ok (n, m) → v = n
theorem zA {α : Type} {k : Int} {f : Rd α} {v : α} : Vl (.error k) f v := fun _ _ _ h => by cases h
theorem tJ {α : Type} {l m : List UInt8} {f : Rd α} {v : α} (h : f l = .ok (v, m)) : nx (.ok l) f = .ok m := by simp only [nx, h]
theorem qC {α : Type} {l : List UInt8} {f : Rd α} {k : Int} (h : f l = .error k) : nx (.ok l) f = .error k := by simp only [nx, h]
theorem aBr {α : Type} {l m : List UInt8} {f : Rd α} {v : α} (h : f l = .ok (v, m)) : Vl (.ok l) f v := fun l' n' m' h1 h2 => by
 cases h1; rw [h] at h2; cases h2; rfl
theorem n4 {α : Type} {l : List UInt8} {f : Rd α} {v : α} {k : Int} (h : f l = .error k) : Vl (.ok l) f v := fun l' n' m' h1 h2 => by
 cases h1; rw [h] at h2; cases h2
theorem ch {α β : Type} {r : vR} {f : Rd α} {v : α} (h : Vl r f v) (g : α × List UInt8 → Except Int β) : (r >>= fun l => f l >>= g) = (nx r f >>= fun l => g (v, l)) := by
 cases r with
 | error k => rfl
 | ok l =>
   show (f l >>= g) = _
   cases hf : f l with
   | error k => rw [qC hf]; rfl
   | ok q => obtain ⟨n, m⟩ := q; rw [tJ hf, h l n m rfl hf]; rfl
def fin (r : vR) (f : Frame) : Except Int Frame := r >>= fun l => if l.isEmpty then .ok f else .error 3
def rdE (k p n : Int) : List UInt8 → Except Int Frame := fun l => rdK k p n l >>= fun q => if q.2.isEmpty then .ok q.1 else .error 3
section
variable {x l : List UInt8} {p n : Int} {r : vR}
theorem aRg {k : Int} (h : bR 1 1 5 x = .ok (k, l)) (hp : Vl (.ok l) (bR 1 0 5) p) (hn : Vl (nx (.ok l) (bR 1 0 5)) (bR 1 0 11) n) :
 rdF x = (nx (nx (.ok l) (bR 1 0 5)) (bR 1 0 11) >>= rdE k p n) := by
 show (bR 1 1 5 x >>= _) = _
 rw [h]
 show ((Except.ok l : vR) >>= fun l => bR 1 0 5 l >>= _) = _
 rw [ch hp]
 show (_ >>= fun l => bR 1 0 11 l >>= _) = _
 rw [ch hn]
 rfl
theorem aWs {w : Int} (hw : Vl r (bR 2 0 60000) w) : (r >>= rdE 1 p n) = fin (nx r (bR 2 0 60000)) (fr1 p n w) := by
 unfold rdE rdK
 simp only [Int.reduceEq, if_true, if_false, bind_assoc]
 rw [ch hw]
 rfl
theorem aWt {c m : Int} {a : List Int} (hc : Vl r (bR 6 0 1099511627776) c) (hm : Vl (nx r (bR 6 0 1099511627776)) (bR 2 0 4095) m) (ha : Vl (nx (nx r (bR 6 0 1099511627776)) (bR 2 0 4095)) P4 a) :
 (r >>= rdE 2 p n) = fin (nx (nx (nx r (bR 6 0 1099511627776)) (bR 2 0 4095)) P4) (fr2 p n c m a) := by
 unfold rdE rdK
 simp only [Int.reduceEq, if_true, if_false, bind_assoc]
 rw [ch hc]; dsimp only
 rw [ch hm]; dsimp only
 rw [ch ha]
 rfl
theorem aWu {k b c o : Int} (hk : Vl r (bR 1 0 9) k) (hb : Vl (nx r (bR 1 0 9)) (bR 1 0 1) b) (hc : Vl (nx (nx r (bR 1 0 9)) (bR 1 0 1)) (bR 6 0 1099511627776) c) (ho : Vl (nx (nx (nx r (bR 1 0 9)) (bR 1 0 1)) (bR 6 0 1099511627776)) O7 o) :
 (r >>= rdE 3 p n) = fin (nx (nx (nx (nx r (bR 1 0 9)) (bR 1 0 1)) (bR 6 0 1099511627776)) O7) (fr3 p n k (b == 1) c o) := by
 unfold rdE rdK
 simp only [Int.reduceEq, if_true, if_false, bind_assoc]
 rw [ch hk]; dsimp only
 rw [ch hb]; dsimp only
 rw [ch hc]; dsimp only
 rw [ch ho]
 rfl
theorem aWv {k : Int} {a : List Int} (hk : Vl r (bR 1 0 9) k) (ha : Vl (nx r (bR 1 0 9)) P4 a) :
 (r >>= rdE 4 p n) = fin (nx (nx r (bR 1 0 9)) P4) (fr4 p n k a) := by
 unfold rdE rdK
 simp only [Int.reduceEq, if_true, if_false, bind_assoc]
 rw [ch hk]; dsimp only
 rw [ch ha]
 rfl
theorem aWw {k f t q : Int} {b : List UInt8} (hk : Vl r (bR 1 0 9) k) (hf : Vl (nx r (bR 1 0 9)) (bR 1 0 5) f) (ht : Vl (nx (nx r (bR 1 0 9)) (bR 1 0 5)) (bR 1 0 5) t) (hq : Vl (nx (nx (nx r (bR 1 0 9)) (bR 1 0 5)) (bR 1 0 5)) (bR 4 1 2147483648) q) (hb : Vl (nx (nx (nx (nx r (bR 1 0 9)) (bR 1 0 5)) (bR 1 0 5)) (bR 4 1 2147483648)) rdB b) :
 (r >>= rdE 5 p n) = fin (nx (nx (nx (nx (nx r (bR 1 0 9)) (bR 1 0 5)) (bR 1 0 5)) (bR 4 1 2147483648)) rdB) (fr5 p n k f t q b) := by
 unfold rdE rdK
 simp only [Int.reduceEq, if_true, if_false, bind_assoc]
 rw [ch hk]; dsimp only
 rw [ch hf]; dsimp only
 rw [ch ht]; dsimp only
 rw [ch hq]; dsimp only
 rw [ch hb]
 rfl
theorem nxL {k : Nat} {v : Int} (h : Vl r (bR 1 0 201) v) : nx r (o6 (k + 1)) = nx (nx r (bR 1 0 201)) (o6 k) := by
 cases r with
 | error e => rfl
 | ok l =>
   cases h1 : bR 1 0 201 l with
   | error e => rw [qC h1]; show nx _ _ = _; exact qC (by show (bR 1 0 201 l >>= _) = _; rw [h1]; rfl)
   | ok q =>
     obtain ⟨a, m⟩ := q
     rw [tJ h1]
     cases h2 : o6 k m with
     | error e => rw [qC h2]; exact qC (by show (bR 1 0 201 l >>= _) = _; rw [h1]; show (o6 k m >>= _) = _; rw [h2]; rfl)
     | ok q => obtain ⟨b, m2⟩ := q; rw [tJ h2]; exact tJ (v := a :: b) (by show (bR 1 0 201 l >>= _) = _; rw [h1]; show (o6 k m >>= _) = _; rw [h2]; rfl)
theorem VlL {k : Nat} {v : Int} {vs : List Int} (h : Vl r (bR 1 0 201) v) (hs : Vl (nx r (bR 1 0 201)) (o6 k) vs) : Vl r (o6 (k + 1)) (v :: vs) := by
 intro l ns m hr hl
 subst hr
 have hl : (bR 1 0 201 l >>= _) = _ := hl
 cases h1 : bR 1 0 201 l with
 | error e => rw [h1] at hl; cases hl
 | ok q =>
   obtain ⟨a, m1⟩ := q
   rw [h1] at hl
   have hl : (o6 k m1 >>= _) = _ := hl
   cases h2 : o6 k m1 with
   | error e => rw [h2] at hl; cases hl
   | ok q =>
     obtain ⟨b, m2⟩ := q
     rw [h2] at hl
     cases hl
     rw [h _ _ _ rfl h1]
     rw [tJ h1] at hs
     rw [hs _ _ _ rfl h2]
end
end Go.Abs
namespace Go.Abs
open Go.Proofs.YtpcnjabfiahhhaaGreatDoor
attribute [local irreducible] enL R RR dF cZ lV dE dG mP apply dB eI aX aZ cO aW fB aP aN cK bN gL cA V.rb V.rbL
theorem aCa {l : List UInt8} {i : Nat} {x : UInt8} (h : l[i]? = some x) : cW (l.take (i + 1)) = cW (l.take i) * 256 + (x.toNat : Int) := by
 rw [← kO h, aKl]
theorem m5 {l : List UInt8} {k : Nat} (h : l.length ≤ k) : 0 ≤ cW l ∧ cW l < 256 ^ k := by
 have h1 := aQu l
 have h2 := aQv l
 have h3 := Int.ofNat_le.2 (Nat.pow_le_pow_right (n := 256) (by decide) h)
 rw [Int.natCast_pow, Int.natCast_pow, show ((256 : Nat) : Int) = 256 from rfl] at h3
 exact ⟨h1, Int.lt_of_lt_of_le h2 h3⟩
theorem aYd {x c : Int} (h0 : 0 ≤ x) (h1 : x < 281474976710656) (h2 : 0 ≤ c) (h3 : c < 256) : IntKind.i64.wrap (BitVec.ofInt IntKind.i64.bits (x * 256) ||| BitVec.ofInt IntKind.i64.bits c).toNat = x * 256 + c := by
 obtain ⟨m, rfl⟩ : ∃ m : Nat, x = m := ⟨x.toNat, by omega⟩
 obtain ⟨d, rfl⟩ : ∃ d : Nat, c = d := ⟨c.toNat, by omega⟩
 have := aQt (w := IntKind.i64.bits) (j := 8) (x := m * 256) (c := d) (by show m * 256 < 2 ^ 64; omega) (by decide) (by omega) (by omega)
 rw [show ((m : Int) * 256) = ((m * 256 : Nat) : Int) by omega, this]
 rw [IntWalk.i64_in _ (by omega)]; omega
theorem aIm {s : Option Nat} {H : aB} {l : List UInt8} (hl : l.length ≤ 7) : Call tab s vH [.sl none l.length (enL l)] H = some (.int .i64 (cW l), H) := by
 ((first | refine aC ?_ | skip); refine bE (cf := vM) rfl rfl rfl rfl ?_; unfold vM; dsimp only [aA, Nat.reduceAdd, Nat.zero_add])
 repeat' (first | refine aF ?_ | refine yc ?_ | refine sG (fun _ => ?_) fun _ => ?_ | refine aG ?_ | refine sH (fun _ => ?_) fun _ => ?_ | fail)
 refine oK l.length (fun i (_ : Unit) => [(3, .int .i64 (cW (l.take i))), (4, .int .i64 i)]) (fun _ _ => _) (fun _ _ => True) ?_ ?_ () trivial
 ·intro i _ hi _ ih
  obtain ⟨x, hx⟩ := oZ hi
  have hb := m5 (l := l.take i) (k := 6) (by rw [List.length_take]; omega)
  have hx2 := x.toNat_lt
  rw [aCa hx] at ih
  have h1 : IntKind.i64.wrap (cW (l.take i) * 256) = cW (l.take i) * 256 := IntWalk.i64_in _ (by omega)
  have h2 : IntKind.i64.wrap (x.toNat : Int) = x.toNat := IntWalk.i64_in _ (by omega)
  have h3 := aYd (x := cW (l.take i)) (c := x.toNat) (by omega) (by omega) (by omega) (by omega)
  generalize cW (l.take i) = q at *
  have hil : (i : Int) < (l.length : Int) := by omega
  have hw : IntKind.i64.wrap ((i : Int) + 1) = ((i + 1 : Nat) : Int) := IntWalk.i64_in _ (by omega)
  refine aJ (by dsimp only [eT, lk, Nat.reduceBEq, cond_true, cond_false, Option.getD_some, Option.getD_none]; first | done | exact rfl) ?_; refine aE ?_
  unfold rA
  repeat' (first | refine aF ?_ | refine yc ?_ | refine sG (fun _ => ?_) fun _ => ?_ | refine aG ?_ | refine sH (fun _ => ?_) fun _ => ?_ | fail)
  refine cV ?_
  rw [h3]
  exact ih () trivial
 ·intro _ _
  refine aJ (by dsimp only [eT, lk, Nat.reduceBEq, cond_true, cond_false, Option.getD_some, Option.getD_none]; first | done | exact rfl) ?_; refine aE ?_
  unfold rA
  repeat' (first | refine aF ?_ | refine yc ?_ | refine sG (fun _ => ?_) fun _ => ?_ | refine aG ?_ | refine sH (fun _ => ?_) fun _ => ?_ | fail)
  rw [List.take_length]
def rR (B : List UInt8) (a : Nat) (e t : Int) : List V := [.sl none B.length (enL B), .int .i64 a, .bool false, .int .i64 e, .int .i64 t]
section
variable {H : aB} {lm id a n : Nat} {B : List UInt8} {e t : Int}
theorem aIn (hid : H[id]? = some (rR B a e t)) (hlm : lm ≤ id) (hn : a + n ≤ B.length) (hB : B.length ≤ 1000000) :
 Call tab (some lm) nM [.ptr id 0, .int .i64 (n : Int)] H = some (.sl (some 1) ((B.drop a).take n).length (enL ((B.drop a).take n)), H.set id (rR B (a + n) e t)) := by
 have hw1 : IntKind.i64.wrap ((B.length : Int) - a) = (B.length : Int) - a := IntWalk.i64_in _ (by omega)
 have hw2 : IntKind.i64.wrap ((a : Int) + n) = ((a + n : Nat) : Int) := IntWalk.i64_in _ (by omega)
 have hl : ((B.drop a).take n).length ≤ 140737488355328 := by rw [List.length_take, List.length_drop]; omega
 have hq : ((a + n : Nat) : Int).toNat - (a : Int).toNat = n := by omega
 unfold rR at *
 ((first | refine aC ?_ | skip); refine eE (cf := nR) rfl rfl rfl (by decide) ?_; unfold nR; dsimp only [aA, Nat.reduceAdd, Nat.zero_add])
 repeat' (first | refine aF ?_ | refine yc ?_ (ha := by first | exact P7 hl | assumption) | refine sG (fun _ => ?_) fun _ => ?_ | refine aG ?_ | refine sH (fun _ => ?_) fun _ => ?_ | fail)
 rfl
theorem I8 (hid : H[id]? = some (rR B a e t)) (hlm : lm ≤ id) {w : Int} (he : e ≠ 0) : Call tab (some lm) dP [.ptr id 0, .int .i64 w] H = some (.bool false, H) := by
 unfold rR at *
 ((first | refine aC ?_ | skip); refine eE (cf := cS) rfl rfl rfl (by decide) ?_; unfold cS; dsimp only [aA, Nat.reduceAdd, Nat.zero_add])
 repeat' (first | refine aF ?_ | refine yc ?_ | refine sG (fun _ => ?_) fun _ => ?_ | refine aG ?_ | refine sH (fun _ => ?_) fun _ => ?_ | fail)
 rfl
theorem I9 (hid : H[id]? = some (rR B a 0 t)) (hlm : lm ≤ id) {w : Int} (hB : B.length ≤ 1000000) (ha : a ≤ B.length) (hw : (B.length : Int) - a < w) : Call tab (some lm) dP [.ptr id 0, .int .i64 w] H = some (.bool false, H.set id (rR B a 2 a)) := by
 have hw1 : IntKind.i64.wrap ((B.length : Int) - a) = (B.length : Int) - a := IntWalk.i64_in _ (by omega)
 unfold rR at *
 ((first | refine aC ?_ | skip); refine eE (cf := cS) rfl rfl rfl (by decide) ?_; unfold cS; dsimp only [aA, Nat.reduceAdd, Nat.zero_add])
 repeat' (first | refine aF ?_ | refine yc ?_ | refine sG (fun _ => ?_) fun _ => ?_ | refine aG ?_ | refine sH (fun _ => ?_) fun _ => ?_ | fail)
 rfl
theorem J0 (hid : H[id]? = some (rR B a 0 t)) (hlm : lm ≤ id) {w : Int} (hB : B.length ≤ 1000000) (ha : a ≤ B.length) (hw : ¬ (B.length : Int) - a < w) : Call tab (some lm) dP [.ptr id 0, .int .i64 w] H = some (.bool true, H.set id (rR B a 0 a)) := by
 have hw1 : IntKind.i64.wrap ((B.length : Int) - a) = (B.length : Int) - a := IntWalk.i64_in _ (by omega)
 unfold rR at *
 ((first | refine aC ?_ | skip); refine eE (cf := cS) rfl rfl rfl (by decide) ?_; unfold cS; dsimp only [aA, Nat.reduceAdd, Nat.zero_add])
 repeat' (first | refine aF ?_ | refine yc ?_ | refine sG (fun _ => ?_) fun _ => ?_ | refine aG ?_ | refine sH (fun _ => ?_) fun _ => ?_ | fail)
 rfl
end
end Go.Abs
namespace Go.Abs
open Go.Proofs.YtpcnjabfiahhhaaGreatDoor
attribute [local irreducible] enL R RR dF cZ lV dE dG mP apply dB eI aX aZ cO aW fB aP aN cK bN gL cA V.rb V.rbL
structure RS (B : List UInt8) (r : vR) (a : Nat) (e : Int) : Prop where
 hi : a ≤ B.length
 is : (r = .ok (B.drop a) ∧ e = 0) ∨ ∃ k, r = .error k ∧ e = k ∧ (k = 2 ∨ k = 6)
theorem RS.e6 {B : List UInt8} {r : vR} {a : Nat} {e : Int} (h : RS B r a e) : e = 0 ∨ e = 2 ∨ e = 6 := by
 rcases h.is with ⟨_, h⟩ | ⟨k, _, h, h2⟩ <;> omega
theorem aBy {w : Nat} {lo hi : Int} {l : List UInt8} (h : l.length < w) : bR w lo hi l = .error 2 := by unfold bR; rw [if_pos h]
theorem aGw {w : Nat} {lo hi : Int} {l : List UInt8} (h : ¬ l.length < w) (h2 : lo ≤ cW (l.take w) ∧ cW (l.take w) ≤ hi) : bR w lo hi l = .ok (cW (l.take w), l.drop w) := by unfold bR; rw [if_neg h, if_pos h2]
theorem aI7 {w : Nat} {lo hi : Int} {l : List UInt8} (h : ¬ l.length < w) (h2 : ¬ (lo ≤ cW (l.take w) ∧ cW (l.take w) ≤ hi)) : bR w lo hi l = .error 6 := by unfold bR; rw [if_neg h, if_neg h2]
theorem aBz {l : List UInt8} (h : l.length < 6) : O7 l = .error 2 := by unfold O7; rw [if_pos h]
theorem aLy {l : List UInt8} (h : ¬ l.length < 6) (h2 : -1099511627776 ≤ mD (l.take 6) ∧ mD (l.take 6) ≤ 1099511627776) : O7 l = .ok (mD (l.take 6), l.drop 6) := by unfold O7; rw [if_neg h, if_pos h2]
theorem aI8 {l : List UInt8} (h : ¬ l.length < 6) (h2 : ¬ (-1099511627776 ≤ mD (l.take 6) ∧ mD (l.take 6) ≤ 1099511627776)) : O7 l = .error 6 := by unfold O7; rw [if_neg h, if_neg h2]
theorem aJn {l : List UInt8} {x : UInt8} (h0 : l[0]? = some x) (hl : l.length = 6) : mD l = if 128 ≤ x.toNat then cW l - 281474976710656 else cW l := by
 match l, hl with
 | [a, b, c, d, e, f], _ =>
   obtain rfl : a = x := by simpa using h0
   have := a.toNat_lt; have := b.toNat_lt; have := c.toNat_lt; have := d.toNat_lt; have := e.toNat_lt; have := f.toNat_lt
   have hn : cW [a, b, c, d, e, f] = (((((a.toNat : Int) * 256 + b.toNat) * 256 + c.toNat) * 256 + d.toNat) * 256 + e.toNat) * 256 + f.toNat := by
    simp only [cW, List.foldl_cons, List.foldl_nil, Int.zero_mul, Int.zero_add]
   unfold mD
   rw [hn]
   simp only [List.length_cons, List.length_nil]
   by_cases h : 128 ≤ a.toNat
   ·rw [if_pos h, if_pos (by omega)]; rfl
   ·rw [if_neg h, if_neg (by omega)]
theorem aPf {s : Option Nat} {H : aB} {l : List UInt8} (hl : l.length = 6) : Call tab s r7 [.sl none l.length (enL l)] H = some (.int .i64 (mD l), H) := by
 obtain ⟨x, hx⟩ : ∃ x, l[0]? = some x := ⟨l[0], by rw [List.getElem?_eq_getElem]⟩
 have hxl := x.toNat_lt
 have hb := m5 (l := l) (k := 6) (by omega)
 have hn := fun s H => aIm (s := s) (H := H) (l := l) (by omega)
 have hw1 : IntKind.i64.wrap (8 * (l.length : Int)) = 48 := by rw [hl]; rfl
 have hw2 : IntKind.u64.wrap (48 : Int) = 48 := rfl
 have hw3 : IntKind.i64.wrap ((1 : Int) * 281474976710656) = 281474976710656 := rfl
 have hw4 : IntKind.i64.wrap (cW l - 281474976710656) = cW l - 281474976710656 := IntWalk.i64_in _ (by omega)
 have h0 : (0 : Int) < (l.length : Int) := by omega
 rw [aJn hx hl]
 by_cases h : 128 ≤ x.toNat
 ·rw [if_pos h]
  have h' : (128 : Int) ≤ (x.toNat : Int) := by omega
  ((first | refine aC ?_ | skip); refine bE (cf := nB) rfl rfl rfl rfl ?_; unfold nB; dsimp only [aA, Nat.reduceAdd, Nat.zero_add])
  repeat' (first | refine aF ?_ | refine yc ?_ (ha := by first | exact hn _ _ | assumption) | refine sG (fun _ => ?_) fun _ => ?_ | refine aG ?_ | refine sH (fun _ => ?_) fun _ => ?_ | fail)
  rw [show IntKind.i64.wrap (1 * 2 ^ min (Int.toNat 48) IntKind.i64.bits) = 281474976710656 from rfl, hw4]
 ·rw [if_neg h]
  have h' : ¬ (128 : Int) ≤ (x.toNat : Int) := by omega
  ((first | refine aC ?_ | skip); refine bE (cf := nB) rfl rfl rfl rfl ?_; unfold nB; dsimp only [aA, Nat.reduceAdd, Nat.zero_add])
  repeat' (first | refine aF ?_ | refine yc ?_ (ha := by first | exact hn _ _ | assumption) | refine sG (fun _ => ?_) fun _ => ?_ | refine aG ?_ | refine sH (fun _ => ?_) fun _ => ?_ | fail)
  rfl
section
variable {H : aB} {lm id a n : Nat} {B : List UInt8} {e t : Int}
theorem aI9 (hid : H[id]? = some (rR B a e t)) (hlm : lm ≤ id) (hn : a + n ≤ B.length) (hB : B.length ≤ 1000000) (h1 : 1 ≤ n ∧ n ≤ 7) :
 Call tab (some lm) nO [.ptr id 0, .int .i64 (n : Int)] H = some (.sl (some 1) ((B.drop a).take n).length (enL ((B.drop a).take n)), H.set id (rR B (a + n) e t)) := by
 have ht := aIn hid hlm hn hB
 have h2 : ¬ (n : Int) < 1 := by omega
 have h3 : ¬ (7 : Int) < (n : Int) := by omega
 generalize (B.drop a).take n = l at *
 ((first | refine aC ?_ | skip); refine eE (cf := nU) rfl rfl rfl (by decide) ?_; unfold nU; dsimp only [aA, Nat.reduceAdd, Nat.zero_add])
 repeat' (first | refine aF ?_ | refine yc ?_ (ha := by first | exact ht | assumption) | refine sG (fun _ => ?_) fun _ => ?_ | refine aG ?_ | refine sH (fun _ => ?_) fun _ => ?_ | fail)
 rfl
theorem aPg (hid : H[id]? = some (rR B a e t)) (hlm : lm ≤ id) (hn : a + n ≤ B.length) (hB : B.length ≤ 1000000) (h1 : 1 ≤ n ∧ n ≤ 7) :
 Call tab (some lm) qN [.ptr id 0, .int .i64 (n : Int)] H = some (.int .i64 (cW ((B.drop a).take n)), H.set id (rR B (a + n) e t)) := by
 have ht := aI9 hid hlm hn hB h1
 have hl : ((B.drop a).take n).length ≤ 7 := by rw [List.length_take]; omega
 generalize (B.drop a).take n = l at *
 have hq := fun s H => aIm (s := s) (H := H) hl
 ((first | refine aC ?_ | skip); refine eE (cf := lK) rfl rfl rfl (by decide) ?_; unfold lK; dsimp only [aA, Nat.reduceAdd, Nat.zero_add])
 repeat' (first | refine aF ?_ | refine yc ?_ (ha := by first | exact ht | exact hq _ _ | assumption) | refine sG (fun _ => ?_) fun _ => ?_ | refine aG ?_ | refine sH (fun _ => ?_) fun _ => ?_ | fail)
 rfl
theorem aPh (hid : H[id]? = some (rR B a e t)) (hlm : lm ≤ id) (hn : a + 6 ≤ B.length) (hB : B.length ≤ 1000000) :
 Call tab (some lm) qO [.ptr id 0, .int .i64 6] H = some (.int .i64 (mD ((B.drop a).take 6)), H.set id (rR B (a + 6) e t)) := by
 have ht := aI9 hid hlm hn hB (by decide)
 have hl : ((B.drop a).take 6).length = 6 := by rw [List.length_take, List.length_drop]; omega
 generalize (B.drop a).take 6 = l at *
 have hq := fun s H => aPf (s := s) (H := H) hl
 ((first | refine aC ?_ | skip); refine eE (cf := lL) rfl rfl rfl (by decide) ?_; unfold lL; dsimp only [aA, Nat.reduceAdd, Nat.zero_add])
 repeat' (first | refine aF ?_ | refine yc ?_ (ha := by first | exact ht | exact hq _ _ | assumption) | refine sG (fun _ => ?_) fun _ => ?_ | refine aG ?_ | refine sH (fun _ => ?_) fun _ => ?_ | fail)
 rfl
def Fld {α : Type} (B : List UInt8) (r : vR) (f : Rd α) (v : α) (a : Nat) (e : Int) : Prop := RS B (nx r f) a e ∧ Vl r f v
set_option maxHeartbeats 1000000 in
theorem P3 {r : vR} {lo hi : Int} {w : Nat} (hid : H[id]? = some (rR B a e t)) (hlm : lm ≤ id) (hs : RS B r a e) (hB : B.length ≤ 1000000) (hw : 1 ≤ w ∧ w ≤ 6) :
 ∃ (v : Int) (a' : Nat) (e' t' : Int), Call tab (some lm) aM [.ptr id 0, .int .i64 (w : Int), .int .i64 lo, .int .i64 hi] H = some (.int .i64 v, H.set id (rR B a' e' t')) ∧ Fld B r (bR w lo hi) v a' e' ∧ 0 ≤ v ∧ v < 281474976710656 ∧ (v = 0 ∨ lo ≤ v ∧ v ≤ hi) := by
 have ha := hs.hi
 rcases hs.is with ⟨hr, he⟩ | ⟨k, hr, he, hk⟩
 ·subst hr he
  by_cases hsh : (B.length : Int) - a < w
  ·have hb := I9 hid hlm hB ha hsh
   have hx : bR w lo hi (B.drop a) = .error 2 := aBy (by rw [List.length_drop]; omega)
   refine ⟨0, a, 2, a, ?_, ⟨⟨ha, .inr ⟨2, qC hx, rfl, .inl rfl⟩⟩, n4 hx⟩, by decide, by decide, .inl rfl⟩
   ((first | refine aC ?_ | skip); refine eE (cf := bI) rfl rfl rfl (by decide) ?_; unfold bI; dsimp only [aA, Nat.reduceAdd, Nat.zero_add])
   repeat' (first | refine aF ?_ | refine yc ?_ (ha := by first | exact hb | assumption) | refine sG (fun _ => ?_) fun _ => ?_ | refine aG ?_ | refine sH (fun _ => ?_) fun _ => ?_ | fail)
   rfl
  ·have hb := J0 hid hlm hB ha hsh
   have hid2 := sM (b := rR B a 0 a) hid
   have hn := aPg (n := w) hid2 hlm (by omega) hB (by omega)
   rw [List.set_set] at hn
   have hid3 := sM (b := rR B (a + w) 0 a) hid
   have hl : ¬ (B.drop a).length < w := by rw [List.length_drop]; omega
   have hbd := m5 (l := (B.drop a).take w) (k := 6) (by rw [List.length_take]; omega)
   by_cases hin : lo ≤ cW ((B.drop a).take w) ∧ cW ((B.drop a).take w) ≤ hi
   ·have hx : bR w lo hi (B.drop a) = .ok (cW ((B.drop a).take w), (B.drop a).drop w) := aGw hl hin
    refine ⟨cW ((B.drop a).take w), a + w, 0, a, ?_, ⟨⟨by omega, .inl ⟨by rw [tJ hx, List.drop_drop], rfl⟩⟩, aBr hx⟩, hbd.1, hbd.2, .inr hin⟩
    have hwi := fun s H => iB (s := s) (H := H) (a := cW ((B.drop a).take w)) (b := lo) (c := hi)
    rw [decide_eq_true hin] at hwi
    ((first | refine aC ?_ | skip); refine eE (cf := bI) rfl rfl rfl (by decide) ?_; unfold bI; dsimp only [aA, Nat.reduceAdd, Nat.zero_add])
    repeat' (first | refine aF ?_ | refine yc ?_ (ha := by first | exact hb | exact hn | exact hwi _ _ | assumption) | refine sG (fun _ => ?_) fun _ => ?_ | refine aG ?_ | refine sH (fun _ => ?_) fun _ => ?_ | fail)
    rfl
   ·have hx : bR w lo hi (B.drop a) = .error 6 := aI7 hl hin
    refine ⟨0, a + w, 6, a, ?_, ⟨⟨by omega, .inr ⟨6, qC hx, rfl, .inr rfl⟩⟩, n4 hx⟩, by decide, by decide, .inl rfl⟩
    have hwi := fun s H => iB (s := s) (H := H) (a := cW ((B.drop a).take w)) (b := lo) (c := hi)
    rw [decide_eq_false hin] at hwi
    unfold rR at *
    ((first | refine aC ?_ | skip); refine eE (cf := bI) rfl rfl rfl (by decide) ?_; unfold bI; dsimp only [aA, Nat.reduceAdd, Nat.zero_add])
    repeat' (first | refine aF ?_ | refine yc ?_ (ha := by first | exact hb | exact hn | exact hwi _ _ | assumption) | refine sG (fun _ => ?_) fun _ => ?_ | refine aG ?_ | refine sH (fun _ => ?_) fun _ => ?_ | fail)
    simp only [List.set_set]
 ·subst hr he
  have hne : e ≠ 0 := by omega
  have hb := I8 (w := (w : Int)) hid hlm hne
  refine ⟨0, a, e, t, ?_, ⟨⟨ha, .inr ⟨e, rfl, rfl, hk⟩⟩, zA⟩, by decide, by decide, .inl rfl⟩
  rw [aC6 hid]
  ((first | refine aC ?_ | skip); refine eE (cf := bI) rfl rfl rfl (by decide) ?_; unfold bI; dsimp only [aA, Nat.reduceAdd, Nat.zero_add])
  repeat' (first | refine aF ?_ | refine yc ?_ (ha := by first | exact hb | assumption) | refine sG (fun _ => ?_) fun _ => ?_ | refine aG ?_ | refine sH (fun _ => ?_) fun _ => ?_ | fail)
  rfl
set_option maxHeartbeats 1000000 in
theorem aJo {r : vR} (hid : H[id]? = some (rR B a e t)) (hlm : lm ≤ id) (hs : RS B r a e) (hB : B.length ≤ 1000000) :
 ∃ (v : Int) (a' : Nat) (e' t' : Int), Call tab (some lm) lE [.ptr id 0] H = some (.int .i64 v, H.set id (rR B a' e' t')) ∧ Fld B r O7 v a' e' := by
 have ha := hs.hi
 rcases hs.is with ⟨hr, he⟩ | ⟨k, hr, he, hk⟩
 ·subst hr he
  by_cases hsh : (B.length : Int) - a < 6
  ·have hb := I9 hid hlm hB ha hsh
   have hx : O7 (B.drop a) = .error 2 := aBz (by rw [List.length_drop]; omega)
   refine ⟨0, a, 2, a, ?_, ⟨⟨ha, .inr ⟨2, qC hx, rfl, .inl rfl⟩⟩, n4 hx⟩⟩
   ((first | refine aC ?_ | skip); refine eE (cf := bJ) rfl rfl rfl (by decide) ?_; unfold bJ; dsimp only [aA, Nat.reduceAdd, Nat.zero_add])
   repeat' (first | refine aF ?_ | refine yc ?_ (ha := by first | exact hb | assumption) | refine sG (fun _ => ?_) fun _ => ?_ | refine aG ?_ | refine sH (fun _ => ?_) fun _ => ?_ | fail)
   rfl
  ·have hb := J0 hid hlm hB ha hsh
   have hid2 := sM (b := rR B a 0 a) hid
   have hn := aPh hid2 hlm (by omega) hB
   rw [List.set_set] at hn
   have hid3 := sM (b := rR B (a + 6) 0 a) hid
   have hl : ¬ (B.drop a).length < 6 := by rw [List.length_drop]; omega
   by_cases hin : -1099511627776 ≤ mD ((B.drop a).take 6) ∧ mD ((B.drop a).take 6) ≤ 1099511627776
   ·have hx : O7 (B.drop a) = .ok (mD ((B.drop a).take 6), (B.drop a).drop 6) := aLy hl hin
    refine ⟨mD ((B.drop a).take 6), a + 6, 0, a, ?_, ⟨⟨by omega, .inl ⟨by rw [tJ hx, List.drop_drop], rfl⟩⟩, aBr hx⟩⟩
    have hwi := fun s H => gF (s := s) (H := H) (x := mD ((B.drop a).take 6))
    rw [decide_eq_true (show Tm (mD ((B.drop a).take 6)) from hin)] at hwi
    ((first | refine aC ?_ | skip); refine eE (cf := bJ) rfl rfl rfl (by decide) ?_; unfold bJ; dsimp only [aA, Nat.reduceAdd, Nat.zero_add])
    repeat' (first | refine aF ?_ | refine yc ?_ (ha := by first | exact hb | exact hn | exact hwi _ _ | assumption) | refine sG (fun _ => ?_) fun _ => ?_ | refine aG ?_ | refine sH (fun _ => ?_) fun _ => ?_ | fail)
    rfl
   ·have hx : O7 (B.drop a) = .error 6 := aI8 hl hin
    refine ⟨0, a + 6, 6, a, ?_, ⟨⟨by omega, .inr ⟨6, qC hx, rfl, .inr rfl⟩⟩, n4 hx⟩⟩
    have hwi := fun s H => gF (s := s) (H := H) (x := mD ((B.drop a).take 6))
    rw [decide_eq_false (show ¬ Tm (mD ((B.drop a).take 6)) from hin)] at hwi
    unfold rR at *
    ((first | refine aC ?_ | skip); refine eE (cf := bJ) rfl rfl rfl (by decide) ?_; unfold bJ; dsimp only [aA, Nat.reduceAdd, Nat.zero_add])
    repeat' (first | refine aF ?_ | refine yc ?_ (ha := by first | exact hb | exact hn | exact hwi _ _ | assumption) | refine sG (fun _ => ?_) fun _ => ?_ | refine aG ?_ | refine sH (fun _ => ?_) fun _ => ?_ | fail)
    simp only [List.set_set]
 ·subst hr he
  have hne : e ≠ 0 := by omega
  have hb := I8 (w := 6) hid hlm hne
  refine ⟨0, a, e, t, ?_, ⟨⟨ha, .inr ⟨e, rfl, rfl, hk⟩⟩, zA⟩⟩
  rw [aC6 hid]
  ((first | refine aC ?_ | skip); refine eE (cf := bJ) rfl rfl rfl (by decide) ?_; unfold bJ; dsimp only [aA, Nat.reduceAdd, Nat.zero_add])
  repeat' (first | refine aF ?_ | refine yc ?_ (ha := by first | exact hb | assumption) | refine sG (fun _ => ?_) fun _ => ?_ | refine aG ?_ | refine sH (fun _ => ?_) fun _ => ?_ | fail)
  rfl
end
end Go.Abs
namespace Go.Abs
open Go.Proofs.YtpcnjabfiahhhaaGreatDoor
theorem nxB {α β : Type} {r : vR} {f : Rd α} {v : α} (h : Vl r f v) (g : α → Rd β) : nx r (fun l => f l >>= fun q => g q.1 q.2) = nx (nx r f) (g v) := by
 cases r with
 | error k => rfl
 | ok l =>
   cases hf : f l with
   | error k => rw [qC hf]; exact qC (by rw [hf]; rfl)
   | ok q =>
     obtain ⟨n, m⟩ := q
     rw [tJ hf, h l n m rfl hf]
     unfold nx; simp only [hf]; rfl
theorem VlB {α β : Type} {r : vR} {f : Rd α} {v : α} (h : Vl r f v) {g : α → Rd β} {w : β} (hg : Vl (nx r f) (g v) w) : Vl r (fun l => f l >>= fun q => g q.1 q.2) w := by
 intro l n m hr hl
 subst hr
 have hl : (f l >>= fun q => g q.1 q.2) = _ := hl
 cases hf : f l with
 | error k => rw [hf] at hl; cases hl
 | ok q =>
   obtain ⟨x, m1⟩ := q
   rw [hf] at hl
   rw [tJ hf] at hg
   rw [h l x m1 rfl hf] at hg
   exact hg _ _ _ rfl hl
def j6 (n : Int) : Rd (List UInt8) := fun l => if l.length < n.toNat then .error 2 else .ok (l.take n.toNat, l.drop n.toNat)
theorem aEe : rdB = fun l => bR 1 0 24 l >>= fun q => j6 q.1 q.2 := rfl
theorem aEf : P4 = fun l => bR 1 1 6 l >>= fun q => o6 q.1.toNat q.2 := rfl
theorem aZ1 {r : vR} : nx r (o6 0) = r := by cases r <;> rfl
theorem aZ2 {r : vR} : Vl r (o6 0) [] := by
 intro l n m hr hl
 cases hl; rfl
attribute [local irreducible] enL R RR dF cZ lV dE dG mP apply dB eI aX aZ cO aW fB aP aN cK bN gL cA V.rb V.rbL
section
variable {H : aB} {lm id a n : Nat} {B : List UInt8} {e t : Int}
def AgP (B : List UInt8) (R : vR) (k i : Nat) (t : Nat × Int × Int × List Int) : Prop :=
 ∃ r, RS B r t.1 t.2.1 ∧ nx r (o6 (k - i)) = nx R (o6 k) ∧ (∀ vs, Vl r (o6 (k - i)) vs → Vl R (o6 k) (t.2.2.2 ++ vs)) ∧ t.2.2.2.length = i
set_option maxHeartbeats 1000000 in
theorem aOf {r : vR} (hid : H[id]? = some (rR B a e t)) (hlm : lm ≤ id) (hs : RS B r a e) (hB : B.length ≤ 1000000) :
 Ev (Call tab (some lm) iO [.ptr id 0] H) (fun o => ∃ (l : List Int) (a' : Nat) (e' t' : Int), o = some (.sl (some 1) l.length (enL l), H.set id (rR B a' e' t')) ∧ Fld B r P4 l a' e' ∧ l.length ≤ 6) := by
 obtain ⟨v, a1, e1, t1, c1, f1, b1, b2, b3⟩ := P3 (lo := 1) (hi := 6) (w := 1) hid hlm hs hB (by decide)
 obtain ⟨k, rfl⟩ : ∃ k : Nat, v = k := ⟨v.toNat, by omega⟩
 have hk : k ≤ 6 := by omega
 ((first | refine aC ?_ | skip); refine eE (cf := nH) rfl rfl rfl (by decide) ?_; unfold nH; dsimp only [aA, Nat.reduceAdd, Nat.zero_add])
 repeat' (first | refine aF ?_ | refine yc ?_ (ha := by first | exact c1 | assumption) | refine sG (fun _ => ?_) fun _ => ?_ | refine aG ?_ | refine sH (fun _ => ?_) fun _ => ?_ | fail)
 refine oK k (fun i (t : Nat × Int × Int × List Int) => [(3, .sl (some 1) t.2.2.2.length (enL t.2.2.2)), (5, .int .i64 i)]) (fun _ t => H.set id (rR B t.1 t.2.1 t.2.2.1)) (AgP B (nx r (bR 1 1 6)) k) ?_ ?_ (a1, e1, t1, []) ⟨_, f1.1, by rw [Nat.sub_zero], fun vs h => by rw [Nat.sub_zero] at h; exact h, rfl⟩ (by simp only [aL, List.length_nil]; rfl) rfl
 ·rintro i ⟨a2, e2, t2, l⟩ hi ⟨r2, s2, n2, v2, l2⟩ ih
  simp only at s2 v2 l2
  obtain ⟨x, a3, e3, t3, c3, f3, _, _, _⟩ := P3 (lo := 0) (hi := 201) (w := 1) (sM (b := rR B a2 e2 t2) hid) hlm s2 hB (by decide)
  rw [List.set_set] at c3
  have hki : k - i = (k - (i + 1)) + 1 := by omega
  rw [hki] at n2 v2
  have hil : (i : Int) < (k : Int) := by omega
  have hw : IntKind.i64.wrap ((i : Int) + 1) = ((i + 1 : Nat) : Int) := IntWalk.i64_in _ (by omega)
  have ih := ih (a3, e3, t3, l ++ [x]) ⟨_, f3.1, by rw [← nxL f3.2]; exact n2, fun vs h => by rw [List.append_assoc]; exact v2 _ (VlL f3.2 h), by simp [l2]⟩
  simp only at ih
  refine aJ (by dsimp only [eT, lk, Nat.reduceBEq, cond_true, cond_false, Option.getD_some, Option.getD_none]; first | done | exact rfl) ?_; refine aE ?_
  unfold kT
  repeat' (first | refine aF ?_ | refine yc ?_ (ha := by first | exact c3 | assumption) | refine sG (fun _ => ?_) fun _ => ?_ | refine aG ?_ | refine sH (fun _ => ?_) fun _ => ?_ | fail)
  refine cV ?_
  exact ih
 ·rintro ⟨a2, e2, t2, l⟩ ⟨r2, s2, n2, v2, l2⟩
  simp only at s2 v2 l2
  rw [Nat.sub_self] at n2 v2
  rw [aZ1] at n2
  have v3 := v2 [] aZ2
  rw [List.append_nil] at v3
  refine aJ (by dsimp only [eT, lk, Nat.reduceBEq, cond_true, cond_false, Option.getD_some, Option.getD_none]; first | done | exact rfl) ?_; refine aE ?_
  unfold kT
  repeat' (first | refine aF ?_ | refine yc ?_ | refine sG (fun _ => ?_) fun _ => ?_ | refine aG ?_ | refine sH (fun _ => ?_) fun _ => ?_ | fail)
  refine ⟨l, a2, e2, t2, rfl, ⟨?_, ?_⟩, by omega⟩
  ·rw [aEf, nxB f1.2 (fun n => o6 n.toNat)]
   show RS B (nx _ (o6 k)) _ _
   rw [← n2]; exact s2
  ·rw [aEf]; exact VlB f1.2 (g := fun n => o6 n.toNat) v3
set_option maxHeartbeats 1000000 in
theorem aOg {r : vR} (hid : H[id]? = some (rR B a e t)) (hlm : lm ≤ id) (hs : RS B r a e) (hB : B.length ≤ 1000000) :
 ∃ (l : List UInt8) (a' : Nat) (e' t' : Int), Call tab (some lm) nL [.ptr id 0] H = some (.sl (some 1) l.length (enL l), H.set id (rR B a' e' t')) ∧ Fld B r rdB l a' e' ∧ l.length ≤ 24 := by
 obtain ⟨v, a1, e1, t1, c1, f1, b1, b2, b3⟩ := P3 (lo := 0) (hi := 24) (w := 1) hid hlm hs hB (by decide)
 obtain ⟨k, rfl⟩ : ∃ k : Nat, v = k := ⟨v.toNat, by omega⟩
 have hk : k ≤ 24 := by omega
 have h1 := sM (b := rR B a1 e1 t1) hid
 have s1 := f1.1
 have ha := s1.hi
 have hq : ∀ l a' e', RS B (nx (nx r (bR 1 0 24)) (j6 k)) a' e' → Vl (nx r (bR 1 0 24)) (j6 k) l → Fld B r rdB l a' e' := fun l a' e' h1 h2 => ⟨by rw [aEe, nxB f1.2 j6]; exact h1, by rw [aEe]; exact VlB f1.2 (g := j6) h2⟩
 rcases s1.is with ⟨hr, he⟩ | ⟨q, hr, he, hkk⟩
 ·subst he
  rw [hr] at hq
  by_cases hsh : (B.length : Int) - a1 < k
  ·have hb := I9 h1 hlm hB ha hsh
   rw [List.set_set] at hb
   have hx : j6 k (B.drop a1) = .error 2 := by unfold j6; rw [if_pos (by rw [List.length_drop]; omega)]
   refine ⟨[], a1, 2, a1, ?_, hq _ _ _ ⟨ha, .inr ⟨2, qC hx, rfl, .inl rfl⟩⟩ (n4 hx), by decide⟩
   ((first | refine aC ?_ | skip); refine eE (cf := dD) rfl rfl rfl (by decide) ?_; unfold dD; dsimp only [aA, Nat.reduceAdd, Nat.zero_add])
   repeat' (first | refine aF ?_ | refine yc ?_ (ha := by first | exact c1 | exact hb | assumption) | refine sG (fun _ => ?_) fun _ => ?_ | refine aG ?_ | refine sH (fun _ => ?_) fun _ => ?_ | fail)
   simp only [aL, List.length_nil]
  ·have hb := J0 h1 hlm hB ha hsh
   rw [List.set_set] at hb
   have h2 := sM (b := rR B a1 0 a1) hid
   have ht := aIn (n := k) h2 hlm (by omega) hB
   rw [List.set_set] at ht
   have hx : j6 k (B.drop a1) = .ok ((B.drop a1).take k, (B.drop a1).drop k) := by unfold j6; rw [if_neg (by rw [List.length_drop]; omega), Int.toNat_natCast]
   refine ⟨(B.drop a1).take k, a1 + k, 0, a1, ?_, hq _ _ _ ⟨by omega, .inl ⟨by rw [tJ hx, List.drop_drop], rfl⟩⟩ (aBr hx), by rw [List.length_take]; omega⟩
   ((first | refine aC ?_ | skip); refine eE (cf := dD) rfl rfl rfl (by decide) ?_; unfold dD; dsimp only [aA, Nat.reduceAdd, Nat.zero_add])
   repeat' (first | refine aF ?_ | refine yc ?_ (ha := by first | exact c1 | exact hb | exact ht | assumption) | refine sG (fun _ => ?_) fun _ => ?_ | refine aG ?_ | refine sH (fun _ => ?_) fun _ => ?_ | fail)
   rfl
 ·subst he
  have hne : e1 ≠ 0 := by omega
  have hb := I8 (w := (k : Int)) h1 hlm hne
  rw [hr] at hq
  refine ⟨[], a1, e1, t1, ?_, hq _ _ _ ⟨ha, .inr ⟨e1, rfl, rfl, hkk⟩⟩ zA, by decide⟩
  ((first | refine aC ?_ | skip); refine eE (cf := dD) rfl rfl rfl (by decide) ?_; unfold dD; dsimp only [aA, Nat.reduceAdd, Nat.zero_add])
  repeat' (first | refine aF ?_ | refine yc ?_ (ha := by first | exact c1 | exact hb | assumption) | refine sG (fun _ => ?_) fun _ => ?_ | refine aG ?_ | refine sH (fun _ => ?_) fun _ => ?_ | fail)
  simp only [aL, List.length_nil]
end
end Go.Abs
