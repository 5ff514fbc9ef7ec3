/- A part of the proof of RowAirFits, RowAirHeard, RowAirOrder, RowAirLost: lemmas alone, without conditions. -/
import Derived.Test.YtpcnjabfiahhhaaGreatDoorK48
import Derived.Test.YtpcnjabfiahhhaaGreatDoorK35
set_option linter.all false
namespace Go.Abs
open Go.Proofs.YtpcnjabfiahhhaaGreatDoor
theorem aS7 {l : Nat} {G H : aB} {i j f : Nat} (hk : KB l G H) (hl : l ≤ i) (h1 : G[i]? = some (rC j none)) (h2 : H[i]? = some (rC j (some f))) (hf : G.length ≤ f) : False := by
 rcases hk i _ _ hl h1 h2 with h | h
 ·simp [rC, P8] at h
 ·simp [rC, P8, V.rbL, V.rb] at h; omega
theorem aL5 {l : Nat} {G H H1 : aB} {i j f : Nat} {p : Prop} (h : H1 = H ∨ (H1 = H.take G.length ∧ G.length < H.length ∧ p ∧ KB l G H)) (hl : l ≤ i) (h1 : G[i]? = some (rC j none)) (h2 : H[i]? = some (rC j (some f))) (hf : G.length ≤ f) : H1 = H := by
 rcases h with h | ⟨_, _, _, h⟩
 ·exact h
 ·exact (aS7 h hl h1 h2 hf).elim
theorem nxA {r : vR} {v : Int} (h : Vl r (bR 1 1 6) v) : nx r P4 = nx (nx r (bR 1 1 6)) (o6 v.toNat) := by rw [aEf, nxB h (fun n => o6 n.toNat)]
theorem VlA {r : vR} {v : Int} (h : Vl r (bR 1 1 6) v) {l : List Int} (h2 : Vl (nx r (bR 1 1 6)) (o6 v.toNat) l) : Vl r P4 l := by rw [aEf]; exact VlB h (g := fun n => o6 n.toNat) h2
theorem aS8 {r : vR} {v : Int} (h : Vl r (bR 1 0 24) v) : nx r rdB = nx (nx r (bR 1 0 24)) (j6 v) := by rw [aEe, nxB h j6]
theorem aS9 {r : vR} {v : Int} (h : Vl r (bR 1 0 24) v) {l : List UInt8} (h2 : Vl (nx r (bR 1 0 24)) (j6 v) l) : Vl r rdB l := by rw [aEe]; exact VlB h (g := j6) h2
theorem PS.bad {H : aB} {i j a f : Nat} {B : List UInt8} {r : vR} (h : PS H i j B r a (some f)) : ∃ k, r = .error k := by
 rcases h.is with ⟨h, _⟩ | ⟨f, k, t, _, h, _⟩
 ·cases h
 ·exact ⟨k, h⟩
theorem PS.good {H : aB} {i j a : Nat} {B : List UInt8} {r : vR} (h : PS H i j B r a none) : r = .ok (B.drop a) := by
 rcases h.is with ⟨_, h⟩ | ⟨f, k, t, h, _⟩
 ·exact h
 ·cases h
theorem PS.to {H : aB} {i j a f : Nat} {B : List UInt8} {r r' : vR} (h : PS H i j B r a (some f)) (hr : r' = r) : PS H i j B r' a (some f) := by rw [hr]; exact h
theorem Alt.then {H H1 H2 : aB} {i j : Nat} {o o1 o2 : Option Nat} (h1 : Alt H H1 i j o o1) (h2 : Alt H1 H2 i j o1 o2) : Alt H H2 i j o o2 := by
 refine ⟨by have := h1.len; have := h2.len; omega, fun m hm a b => by rw [h2.same m (by have := h1.len; omega) a b, h1.same m hm a b], fun h => ?_, fun f h h' => ?_, fun f h => ?_⟩
 ·cases o1 with
  | none => rw [h2.non h, h1.non rfl]
  | some f => have := (h2.stay f rfl).2; rw [h] at this; cases this
 ·cases o1 with
  | none => have := h2.new f rfl h'; have := h1.non rfl; omega
  | some g => have e := (h2.stay g rfl).2; rw [h'] at e; cases e; exact h1.new f h rfl
 ·obtain ⟨e1, e2⟩ := h1.stay f h
  obtain ⟨e3, e4⟩ := h2.stay f (by rw [e2, h])
  exact ⟨by rw [e3, e1], by rw [e4, e2]⟩
attribute [local irreducible] enL R RR dF cZ lV dE dG mP apply dB eI aX aZ cO aW fB aP aN cK bN gL cA V.rb V.rbL
section
variable {H : aB} {lm i j a n : Nat} {B : List UInt8} {o : Option Nat} {r : vR}
def AgQ (B : List UInt8) (R : vR) (H1 : aB) (i j k m : Nat) (t : aB × Nat × List Int) : Prop :=
 ∃ r, PS t.1 i j B r t.2.1 none ∧ nx r (o6 (k - m)) = nx R (o6 k) ∧ (∀ vs, Vl r (o6 (k - m)) vs → Vl R (o6 k) (t.2.2 ++ vs)) ∧ t.2.2.length = m ∧ Alt H1 t.1 i j none none
set_option maxHeartbeats 2000000 in
theorem aSa (h : PS H i j B r a o) (hli : lm ≤ i) (hlj : lm ≤ j) (hB : B.length ≤ 1000000) :
 Ev (Call tab (some lm) gS [.ptr i 0] H) (fun out => ∃ (l : List Int) (H' : aB) (a' : Nat) (o' : Option Nat), out = some (.sl (some 1) l.length (enL l), H') ∧ PS H' i j B (nx r P4) a' o' ∧ Alt H H' i j o o' ∧ Vl r P4 l ∧ l.length ≤ 6) := by
 obtain ⟨v, H1, a1, o1, c1, s1, A1, V1, b1, b2, b3⟩ := P9 (lo := 1) (hi := 6) h hli hlj hB
 have hri := s1.ri
 cases o1 with
 | some f =>
   obtain ⟨q, hq⟩ := s1.bad
   have e1 : nx r P4 = nx r (bR 1 1 6) := by rw [nxA V1, hq]; rfl
   have e2 : Vl r P4 [] := VlA V1 (by rw [hq]; exact zA)
   unfold rC P8 at hri
   by_cases hv : 0 < v
   ·((first | refine aC ?_ | skip); refine eE (cf := cQ) rfl rfl rfl (by decide) ?_; unfold cQ; dsimp only [aA, Nat.reduceAdd, Nat.zero_add])
    repeat' (first | refine aF ?_ | refine yc ?_ (ha := by first | exact c1 | assumption) | refine sG (fun _ => ?_) fun _ => ?_ | refine aG ?_ | refine sH (fun _ => ?_) fun _ => ?_ | fail)
    refine aE ?_
    unfold cC
    repeat' (first | refine aF ?_ | refine yc ?_ | refine sG (fun _ => ?_) fun _ => ?_ | refine aG ?_ | refine sH (fun _ => ?_) fun _ => ?_ | fail)
    exact ⟨[], H1, a1, some f, by simp only [aL, List.length_nil], s1.to e1, A1, e2, by decide⟩
   ·((first | refine aC ?_ | skip); refine eE (cf := cQ) rfl rfl rfl (by decide) ?_; unfold cQ; dsimp only [aA, Nat.reduceAdd, Nat.zero_add])
    repeat' (first | refine aF ?_ | refine yc ?_ (ha := by first | exact c1 | assumption) | refine sG (fun _ => ?_) fun _ => ?_ | refine aG ?_ | refine sH (fun _ => ?_) fun _ => ?_ | fail)
    refine aE ?_
    unfold cC
    repeat' (first | refine aF ?_ | refine yc ?_ | refine sG (fun _ => ?_) fun _ => ?_ | refine aG ?_ | refine sH (fun _ => ?_) fun _ => ?_ | fail)
    exact ⟨[], H1, a1, some f, by simp only [aL, List.length_nil], s1.to e1, A1, e2, by decide⟩
 | none =>
   have b4 := b3 rfl
   obtain ⟨k, rfl⟩ : ∃ k : Nat, v = k := ⟨v.toNat, by omega⟩
   have hk : k ≤ 6 := by omega
   ((first | refine aC ?_ | skip); refine eE (cf := cQ) rfl rfl rfl (by decide) ?_; unfold cQ; dsimp only [aA, Nat.reduceAdd, Nat.zero_add])
   repeat' (first | refine aF ?_ | refine yc ?_ (ha := by first | exact c1 | assumption) | refine sG (fun _ => ?_) fun _ => ?_ | refine aG ?_ | refine sH (fun _ => ?_) fun _ => ?_ | fail)
   refine oK k (fun m (t : aB × Nat × List Int) => [(3, .sl (some 1) t.2.2.length (enL t.2.2)), (4, .int .i64 ((k - m : Nat) : Int))]) (fun _ t => t.1) (AgQ B (nx r (bR 1 1 6)) H1 i j k) ?_ ?_ (H1, a1, []) ⟨_, s1, by rw [Nat.sub_zero], fun vs h => by rw [Nat.sub_zero] at h; exact h, rfl, Alt.refl⟩ (by simp only [aL, List.length_nil]; rfl) rfl
   ·rintro m ⟨G, a2, l⟩ hm ⟨r2, s2, n2, v2, l2, A2⟩ ih
    simp only at s2 v2 l2 A2
    obtain ⟨x, G3, a3, o3, c3, s3, A3, V3, b5, b6, b7⟩ := P9 (lo := 0) (hi := 201) s2 hli hlj hB
    have hkm : k - m = (k - (m + 1)) + 1 := by omega
    rw [hkm] at n2 v2
    have hpos : (0 : Int) < ((k - m : Nat) : Int) := by omega
    have hw : IntKind.i64.wrap (((k - m : Nat) : Int) - 1) = ((k - (m + 1) : Nat) : Int) := by rw [IntWalk.i64_in _ (by omega)]; omega
    have hgi := s2.ri
    cases o3 with
    | none =>
      have hlen := A3.non rfl
      have ih := ih (G3, a3, l ++ [x]) ⟨_, s3, by rw [← nxL V3]; exact n2, fun vs h => by rw [List.append_assoc]; exact v2 _ (VlL V3 h), by simp [l2], A2.then A3⟩
      simp only at ih
      unfold rC P8 at hgi
      refine aJ (by dsimp only [eT, lk, Nat.reduceBEq, cond_true, cond_false, Option.getD_some, Option.getD_none]; first | done | exact rfl) ?_; refine aE ?_
      unfold cC
      repeat' (first | refine aF ?_ | refine yc ?_ (ha := by first | exact c3 | assumption) | refine sG (fun _ => ?_) fun _ => ?_ | refine aG ?_ | refine sH (fun _ => ?_) fun _ => ?_ | fail)
      refine oR (R8 (Nat.le_of_eq hlen)) ?_
      exact ih
    | some f =>
      have hgi3 := s3.ri
      obtain ⟨q, hq⟩ := s3.bad
      have e1 : nx r P4 = nx r2 (bR 1 0 201) := by
       rw [nxA V1, Int.toNat_natCast, ← n2, nxL V3, hq]; rfl
      have e2 : Vl r P4 (l ++ [x]) := VlA V1 (by rw [Int.toNat_natCast]; exact v2 _ (VlL V3 (by rw [hq]; exact zA)))
      unfold rC P8 at hgi hgi3
      by_cases hz : 0 < ((k - (m + 1) : Nat) : Int)
      ·refine aJ (by dsimp only [eT, lk, Nat.reduceBEq, cond_true, cond_false, Option.getD_some, Option.getD_none]; first | done | exact rfl) ?_; refine aE ?_
       unfold cC
       repeat' (first | refine aF ?_ | refine yc ?_ (ha := by first | exact c3 | assumption) | refine sG (fun _ => ?_) fun _ => ?_ | refine aG ?_ | refine sH (fun _ => ?_) fun _ => ?_ | fail)
       refine aRi fun G4 h4 => ?_
       rw [aL5 h4 hli s2.ri s3.ri (A3.new f rfl rfl)]
       refine aE ?_
       repeat' (first | refine aF ?_ | refine yc ?_ | refine sG (fun _ => ?_) fun _ => ?_ | refine aG ?_ | refine sH (fun _ => ?_) fun _ => ?_ | fail)
       exact ⟨l ++ [x], G3, a3, some f, rfl, s3.to e1, A1.then (A2.then A3), e2, by simp [l2]; omega⟩
      ·refine aJ (by dsimp only [eT, lk, Nat.reduceBEq, cond_true, cond_false, Option.getD_some, Option.getD_none]; first | done | exact rfl) ?_; refine aE ?_
       unfold cC
       repeat' (first | refine aF ?_ | refine yc ?_ (ha := by first | exact c3 | assumption) | refine sG (fun _ => ?_) fun _ => ?_ | refine aG ?_ | refine sH (fun _ => ?_) fun _ => ?_ | fail)
       refine aRi fun G4 h4 => ?_
       rw [aL5 h4 hli s2.ri s3.ri (A3.new f rfl rfl)]
       refine aE ?_
       repeat' (first | refine aF ?_ | refine yc ?_ | refine sG (fun _ => ?_) fun _ => ?_ | refine aG ?_ | refine sH (fun _ => ?_) fun _ => ?_ | fail)
       exact ⟨l ++ [x], G3, a3, some f, rfl, s3.to e1, A1.then (A2.then A3), e2, by simp [l2]; omega⟩
   ·rintro ⟨G, a2, l⟩ ⟨r2, s2, n2, v2, l2, A2⟩
    simp only at s2 v2 l2 A2
    rw [Nat.sub_self] at n2 v2
    rw [aZ1] at n2
    have v3 := v2 [] aZ2
    rw [List.append_nil] at v3
    have hz : ¬ (0 : Int) < ((k - k : Nat) : Int) := by omega
    refine aJ (by dsimp only [eT, lk, Nat.reduceBEq, cond_true, cond_false, Option.getD_some, Option.getD_none]; first | done | exact rfl) ?_; refine aE ?_
    unfold cC
    repeat' (first | refine aF ?_ | refine yc ?_ | refine sG (fun _ => ?_) fun _ => ?_ | refine aG ?_ | refine sH (fun _ => ?_) fun _ => ?_ | fail)
    refine ⟨l, G, a2, none, rfl, ?_, A1.then A2, VlA V1 (by rw [Int.toNat_natCast]; exact v3), by omega⟩
    rw [nxA V1, Int.toNat_natCast, ← n2]; exact s2
set_option maxHeartbeats 1000000 in
theorem aSb (h : PS H i j B r a o) (hli : lm ≤ i) (hlj : lm ≤ j) (hB : B.length ≤ 1000000) :
 ∃ (l : List UInt8) (H' : aB) (a' : Nat) (o' : Option Nat), Call tab (some lm) mG [.ptr i 0] H = some (.sl (some 1) l.length (enL l), H') ∧ PS H' i j B (nx r rdB) a' o' ∧ Alt H H' i j o o' ∧ Vl r rdB l ∧ l.length ≤ 24 := by
 obtain ⟨v, H1, a1, o1, c1, s1, A1, V1, b1, b2, b3⟩ := P9 (lo := 0) (hi := 24) h hli hlj hB
 have hri := s1.ri
 have ha := s1.hi
 cases o1 with
 | some f =>
   obtain ⟨q, hq⟩ := s1.bad
   have hb := K4 (w := v) s1.ri hli
   refine ⟨[], H1, a1, some f, ?_, s1.to (by rw [aS8 V1, hq]; rfl), A1, aS9 V1 (by rw [hq]; exact zA), by decide⟩
   unfold rC P8 at hri
   ((first | refine aC ?_ | skip); refine eE (cf := cR) rfl rfl rfl (by decide) ?_; unfold cR; dsimp only [aA, Nat.reduceAdd, Nat.zero_add])
   repeat' (first | refine aF ?_ | refine yc ?_ (ha := by first | exact c1 | exact hb | assumption) | refine sG (fun _ => ?_) fun _ => ?_ | refine aG ?_ | refine sH (fun _ => ?_) fun _ => ?_ | fail)
   simp only [aL, List.length_nil]
 | none =>
   have b4 := b3 rfl
   obtain ⟨k, rfl⟩ : ∃ k : Nat, v = k := ⟨v.toNat, by omega⟩
   have hk : k ≤ 24 := by omega
   have hg := s1.good
   have s2 := s1
   rw [hg] at s2
   by_cases hsh : (B.length : Int) - a1 < k
   ·have hb := K5 s1.ri s1.wj hli hB ha hsh
    have hx : j6 k (B.drop a1) = .error 2 := by unfold j6; rw [if_pos (by rw [List.length_drop]; omega)]
    obtain ⟨p1, p2⟩ := s2.failed (k := 2) (t := (a1 : Int)) (.inl rfl)
    refine ⟨[], _, a1, _, ?_, by rw [aS8 V1, hg, qC hx]; exact p1, A1.then p2, aS9 V1 (by rw [hg]; exact n4 hx), by decide⟩
    generalize (H1 ++ [fC (a1 : Int) 2]).set i (rC j (some H1.length)) = G at *
    unfold rC P8 at hri
    ((first | refine aC ?_ | skip); refine eE (cf := cR) rfl rfl rfl (by decide) ?_; unfold cR; dsimp only [aA, Nat.reduceAdd, Nat.zero_add])
    repeat' (first | refine aF ?_ | refine yc ?_ (ha := by first | exact c1 | exact hb | assumption) | refine sG (fun _ => ?_) fun _ => ?_ | refine aG ?_ | refine sH (fun _ => ?_) fun _ => ?_ | fail)
    simp only [aL, List.length_nil]
   ·have hb := K6 s1.ri s1.wj hli hB ha hsh
    have hx : j6 k (B.drop a1) = .ok ((B.drop a1).take k, (B.drop a1).drop k) := by unfold j6; rw [if_neg (by rw [List.length_drop]; omega), Int.toNat_natCast]
    obtain ⟨p1, p2⟩ := s2.read (b := a1 + k) (by omega)
    have ht := aIj (n := k) s1.wj hlj (by omega) hB
    refine ⟨(B.drop a1).take k, _, a1 + k, none, ?_, by rw [aS8 V1, hg, tJ hx, List.drop_drop]; exact p1, A1.then p2, aS9 V1 (by rw [hg]; exact aBr hx), by rw [List.length_take]; omega⟩
    generalize (B.drop a1).take k = L at *
    unfold rC P8 at hri
    ((first | refine aC ?_ | skip); refine eE (cf := cR) rfl rfl rfl (by decide) ?_; unfold cR; dsimp only [aA, Nat.reduceAdd, Nat.zero_add])
    repeat' (first | refine aF ?_ | refine yc ?_ (ha := by first | exact c1 | exact hb | exact ht | assumption) | refine sG (fun _ => ?_) fun _ => ?_ | refine aG ?_ | refine sH (fun _ => ?_) fun _ => ?_ | fail)
    rfl
end
end Go.Abs
namespace Go.Abs
open Go.Proofs.YtpcnjabfiahhhaaGreatDoor
structure PF (G H : aB) (i j p : Nat) (B : List UInt8) (r : vR) (a : Nat) (o : Option Nat) (c : List V) : Prop where
 ps : PS H i j B r a o
 fp : H[p]? = some c
 pi : p ≠ i
 pj : p ≠ j
 c14 : c.length = 14
 len : G.length ≤ H.length
 same : ∀ m, m < G.length → m ≠ i → m ≠ j → m ≠ p → H[m]? = G[m]?
theorem PF.step {G H H' : aB} {i j p a a' : Nat} {B : List UInt8} {r r' : vR} {o o' : Option Nat} {c : List V} (h : PF G H i j p B r a o c) (s : PS H' i j B r' a' o') (A : Alt H H' i j o o') : PF G H' i j p B r' a' o' c := by
 have hp : p < H.length := (List.getElem?_eq_some_iff.1 h.fp).1
 refine ⟨s, by rw [A.same p hp h.pi h.pj]; exact h.fp, h.pi, h.pj, h.c14, by have := h.len; have := A.len; omega, fun m hm h1 h2 h3 => ?_⟩
 rw [A.same m (by have := h.len; omega) h1 h2, h.same m hm h1 h2 h3]
theorem PF.put {G H : aB} {i j p a : Nat} {B : List UInt8} {r : vR} {o : Option Nat} {c c' : List V} (h : PF G H i j p B r a o c) (h14 : c'.length = 14 := by rfl) : PF G (H.set p c') i j p B r a o c' := by
 have hp : p < H.length := (List.getElem?_eq_some_iff.1 h.fp).1
 have hpi := h.pi
 have hpj := h.pj
 refine ⟨⟨?_, ?_, h.ps.hi, h.ps.ne, ?_⟩, by rw [List.getElem?_set_self hp], h.pi, h.pj, h14, by simp; exact h.len, fun m hm h1 h2 h3 => ?_⟩
 ·rw [List.getElem?_set_ne hpi]; exact h.ps.ri
 ·rw [List.getElem?_set_ne hpj]; exact h.ps.wj
 ·rcases h.ps.is with h1 | ⟨f, k, t, h1, h2, h3, h4, h5, h6⟩
  ·exact .inl h1
  ·refine .inr ⟨f, k, t, h1, h2, ?_, h4, h5, h6⟩
   have : p ≠ f := by
    rintro rfl
    have e := h.fp.symm.trans h3
    have e := congrArg List.length (Option.some.inj e)
    rw [h.c14] at e; simp [fC] at e
   rw [List.getElem?_set_ne this]; exact h3
 ·rw [List.getElem?_set_ne (by omega)]; exact h.same m hm h1 h2 h3
attribute [local irreducible] enL R RR dF cZ lV dE dG mP apply dB eI aX aZ cO aW fB aP aN cK bN gL cA V.rb V.rbL
section
variable {β : Type} {s : Option Nat} {rs : List eJ} {e0 e1 e2 : aQ} {d : Nat} {xs : List X} {κ : aQ × aB → Option β} {Y : Option β → Prop} {G H : aB} {B : List UInt8} {r : vR} {a i j p lm w : Nat} {o : Option Nat} {c : List V} {lo hi : Int}
theorem B3 (hx : dB xs e0 = some ([.ptr i 0, .int .i64 (w : Int), .int .i64 lo, .int .i64 hi], e1) := by exact tHX) (hd : aX e1 d = e2 := by exact oX) (hc : gK e1 = true := by exact rfl) (hli : lm ≤ i) (hlj : lm ≤ j) (h : PF G H i j p B r a o c) (hB : B.length ≤ 1000000) (hw : 1 ≤ w ∧ w ≤ 6)
 (k : ∀ (v : Int) H' a' o', PF G H' i j p B (nx r (bR w lo hi)) a' o' c → Vl r (bR w lo hi) v → 0 ≤ v → v < 281474976710656 → Ev (RR tab (some lm) rs ((d, .int .i64 v) :: e2) H' κ) Y) :
 Ev (RR tab (some lm) ((some d, none, .call bU xs 0) :: rs) e0 H κ) Y := by
 obtain ⟨v, H', a', o', c1, s1, A1, V1, b1, b2, b3⟩ := aJ6 h.ps hli hlj hB hw
 exact cI (k v H' a' o' (h.step s1 A1) V1 b1 b2) hx c1 (by rw [hc, Bool.or_true]) hd
theorem tO (hx : dB xs e0 = some ([.ptr i 0, .int .i64 lo, .int .i64 hi], e1) := by exact tHX) (hd : aX e1 d = e2 := by exact oX) (hc : gK e1 = true := by exact rfl) (hli : lm ≤ i) (hlj : lm ≤ j) (h : PF G H i j p B r a o c) (hB : B.length ≤ 1000000)
 (k : ∀ (v : Int) H' a' o', PF G H' i j p B (nx r (bR 1 lo hi)) a' o' c → Vl r (bR 1 lo hi) v → 0 ≤ v → v < 281474976710656 → Ev (RR tab (some lm) rs ((d, .int .i64 v) :: e2) H' κ) Y) :
 Ev (RR tab (some lm) ((some d, none, .call bD xs 0) :: rs) e0 H κ) Y := by
 obtain ⟨v, H', a', o', c1, s1, A1, V1, b1, b2, b3⟩ := P9 h.ps hli hlj hB
 exact cI (k v H' a' o' (h.step s1 A1) V1 b1 b2) hx c1 (by rw [hc, Bool.or_true]) hd
theorem aLz (hx : dB xs e0 = some ([.ptr i 0, .int .i64 6], e1) := by exact tHX) (hd : aX e1 d = e2 := by exact oX) (hc : gK e1 = true := by exact rfl) (hli : lm ≤ i) (hlj : lm ≤ j) (h : PF G H i j p B r a o c) (hB : B.length ≤ 1000000)
 (k : ∀ (v : Int) H' a' o', PF G H' i j p B (nx r O7) a' o' c → Vl r O7 v → Ev (RR tab (some lm) rs ((d, .int .i64 v) :: e2) H' κ) Y) :
 Ev (RR tab (some lm) ((some d, none, .call jR xs 0) :: rs) e0 H κ) Y := by
 obtain ⟨v, H', a', o', c1, s1, A1, V1⟩ := aOi h.ps hli hlj hB
 exact cI (k v H' a' o' (h.step s1 A1) V1) hx c1 (by rw [hc, Bool.or_true]) hd
theorem aM0 (hx : dB xs e0 = some ([.ptr i 0], e1) := by exact tHX) (hd : aX e1 d = e2 := by exact oX) (hc : gK e1 = true := by exact rfl) (hli : lm ≤ i) (hlj : lm ≤ j) (h : PF G H i j p B r a o c) (hB : B.length ≤ 1000000)
 (k : ∀ (v : List Int) H' a' o', PF G H' i j p B (nx r P4) a' o' c → Vl r P4 v → v.length ≤ 6 → Ev (RR tab (some lm) rs ((d, .sl (some 1) v.length (enL v)) :: e2) H' κ) Y) :
 Ev (RR tab (some lm) ((some d, none, .call gS xs 0) :: rs) e0 H κ) Y := by
 obtain ⟨v, H', a', o', c1, s1, A1, V1, b1⟩ := (aSa h.ps hli hlj hB).so
 exact cI (k v H' a' o' (h.step s1 A1) V1 b1) hx c1 (by rw [hc, Bool.or_true]) hd
theorem aTe (hx : dB xs e0 = some ([.ptr i 0], e1) := by exact tHX) (hd : aX e1 d = e2 := by exact oX) (hc : gK e1 = true := by exact rfl) (hli : lm ≤ i) (hlj : lm ≤ j) (h : PF G H i j p B r a o c) (hB : B.length ≤ 1000000)
 (k : ∀ (v : List UInt8) H' a' o', PF G H' i j p B (nx r rdB) a' o' c → Vl r rdB v → v.length ≤ 24 → Ev (RR tab (some lm) rs ((d, .sl (some 1) v.length (enL v)) :: e2) H' κ) Y) :
 Ev (RR tab (some lm) ((some d, none, .call mG xs 0) :: rs) e0 H κ) Y := by
 obtain ⟨v, H', a', o', c1, s1, A1, V1, b1⟩ := aSb h.ps hli hlj hB
 exact cI (k v H' a' o' (h.step s1 A1) V1 b1) hx c1 (by rw [hc, Bool.or_true]) hd
end
abbrev O4 (kind part node wait mask link : Int) (flag : Bool) (cycle offset : Int) (ages : V) (frm to seq : Int) (body : V) : List V :=
 [.int .i64 kind, .int .i64 part, .int .i64 node, .int .i64 wait, .int .i64 mask, .int .i64 link, .bool flag, .int .i64 cycle, .int .i64 offset, ages, .int .i64 frm, .int .i64 to, .int .i64 seq, body]
abbrev m0 : V := .sl (some 1) 0 []
section
variable {G H : aB} {B : List UInt8} {r : vR} {a i j p lm : Nat} {o : Option Nat} {x : List UInt8} {P N L : Int}
set_option maxHeartbeats 2000000 in
theorem aJq (h : PF G H i j p B r a o (O4 3 P N 0 0 L false 0 0 m0 0 0 0 m0)) (hli : lm ≤ i) (hlj : lm ≤ j) (hlp : lm ≤ p) (hB : B.length ≤ 1000000) :
 Ev (Call tab (some lm) cF [.ptr i 0, .ptr p 0] H) (fun out => ∃ (b c q : Int) (H' : aB) (a' : Nat) (o' : Option Nat), out = some (.tup [], H') ∧ PF G H' i j p B (nx (nx (nx r (bR 1 0 1)) (bR 6 0 1099511627776)) O7) a' o' (O4 3 P N 0 0 L (b == 1) c q m0 0 0 0 m0) ∧ Vl r (bR 1 0 1) b ∧ Vl (nx r (bR 1 0 1)) (bR 6 0 1099511627776) c ∧ Vl (nx (nx r (bR 1 0 1)) (bR 6 0 1099511627776)) O7 q) := by
 have g0 := h.fp
 unfold O4 m0 at *
 ((first | refine aC ?_ | skip); refine eE (cf := cD) rfl rfl rfl (by decide) ?_; unfold cD; dsimp only [aA, Nat.reduceAdd, Nat.zero_add])
 repeat' (first | refine aF ?_ | refine yc ?_ | refine sG (fun _ => ?_) fun _ => ?_ | refine aG ?_ | refine sH (fun _ => ?_) fun _ => ?_ | fail)
 refine tO (hli := hli) (hlj := hlj) (h := h) (hB := hB) (k := fun v1 H1 a1 o1 f1 V1 b1 c1 => ?_)
 have g1 := f1.fp
 repeat' (first | refine aF ?_ | refine yc ?_ | refine sG (fun _ => ?_) fun _ => ?_ | refine aG ?_ | refine sH (fun _ => ?_) fun _ => ?_ | fail)
 refine B3 (w := 6) (hw := by decide) (hli := hli) (hlj := hlj) (h := f1.put) (hB := hB) (k := fun v2 H2 a2 o2 f2 V2 b2 c2 => ?_)
 have g2 := f2.fp
 repeat' (first | refine aF ?_ | refine yc ?_ | refine sG (fun _ => ?_) fun _ => ?_ | refine aG ?_ | refine sH (fun _ => ?_) fun _ => ?_ | fail)
 refine aLz (hli := hli) (hlj := hlj) (h := f2.put) (hB := hB) (k := fun v3 H3 a3 o3 f3 V3 => ?_)
 have g3 := f3.fp
 repeat' (first | refine aF ?_ | refine yc ?_ | refine sG (fun _ => ?_) fun _ => ?_ | refine aG ?_ | refine sH (fun _ => ?_) fun _ => ?_ | fail)
 exact ⟨v1, v2, v3, _, _, _, rfl, f3.put, V1, V2, V3⟩
set_option maxHeartbeats 2000000 in
theorem aJr (h : PF G H i j p B r a o (O4 4 P N 0 0 L false 0 0 m0 0 0 0 m0)) (hli : lm ≤ i) (hlj : lm ≤ j) (hlp : lm ≤ p) (hB : B.length ≤ 1000000) :
 Ev (Call tab (some lm) cF [.ptr i 0, .ptr p 0] H) (fun out => ∃ (l : List Int) (H' : aB) (a' : Nat) (o' : Option Nat), out = some (.tup [], H') ∧ PF G H' i j p B (nx r P4) a' o' (O4 4 P N 0 0 L false 0 0 (.sl (some 1) l.length (enL l)) 0 0 0 m0) ∧ Vl r P4 l ∧ l.length ≤ 6) := by
 have g0 := h.fp
 unfold O4 m0 at *
 ((first | refine aC ?_ | skip); refine eE (cf := cD) rfl rfl rfl (by decide) ?_; unfold cD; dsimp only [aA, Nat.reduceAdd, Nat.zero_add])
 repeat' (first | refine aF ?_ | refine yc ?_ | refine sG (fun _ => ?_) fun _ => ?_ | refine aG ?_ | refine sH (fun _ => ?_) fun _ => ?_ | fail)
 refine aM0 (hli := hli) (hlj := hlj) (h := h) (hB := hB) (k := fun v1 H1 a1 o1 f1 V1 b1 => ?_)
 have g1 := f1.fp
 repeat' (first | refine aF ?_ | refine yc ?_ | refine sG (fun _ => ?_) fun _ => ?_ | refine aG ?_ | refine sH (fun _ => ?_) fun _ => ?_ | fail)
 exact ⟨v1, _, _, _, rfl, f1.put, V1, b1⟩
set_option maxHeartbeats 2000000 in
theorem aJs (h : PF G H i j p B r a o (O4 5 P N 0 0 L false 0 0 m0 0 0 0 m0)) (hli : lm ≤ i) (hlj : lm ≤ j) (hlp : lm ≤ p) (hB : B.length ≤ 1000000) :
 Ev (Call tab (some lm) cF [.ptr i 0, .ptr p 0] H) (fun out => ∃ (f t q : Int) (b : List UInt8) (H' : aB) (a' : Nat) (o' : Option Nat), out = some (.tup [], H') ∧ PF G H' i j p B (nx (nx (nx (nx r (bR 1 0 5)) (bR 1 0 5)) (bR 4 1 2147483648)) rdB) a' o' (O4 5 P N 0 0 L false 0 0 m0 f t q (.sl (some 1) b.length (enL b))) ∧ Vl r (bR 1 0 5) f ∧ Vl (nx r (bR 1 0 5)) (bR 1 0 5) t ∧ Vl (nx (nx r (bR 1 0 5)) (bR 1 0 5)) (bR 4 1 2147483648) q ∧ Vl (nx (nx (nx r (bR 1 0 5)) (bR 1 0 5)) (bR 4 1 2147483648)) rdB b ∧ b.length ≤ 24) := by
 have g0 := h.fp
 unfold O4 m0 at *
 ((first | refine aC ?_ | skip); refine eE (cf := cD) rfl rfl rfl (by decide) ?_; unfold cD; dsimp only [aA, Nat.reduceAdd, Nat.zero_add])
 repeat' (first | refine aF ?_ | refine yc ?_ | refine sG (fun _ => ?_) fun _ => ?_ | refine aG ?_ | refine sH (fun _ => ?_) fun _ => ?_ | fail)
 refine tO (hli := hli) (hlj := hlj) (h := h) (hB := hB) (k := fun v1 H1 a1 o1 f1 V1 b1 c1 => ?_)
 have g1 := f1.fp
 repeat' (first | refine aF ?_ | refine yc ?_ | refine sG (fun _ => ?_) fun _ => ?_ | refine aG ?_ | refine sH (fun _ => ?_) fun _ => ?_ | fail)
 refine tO (hli := hli) (hlj := hlj) (h := f1) (hB := hB) (k := fun v2 H2 a2 o2 f2 V2 b2 c2 => ?_)
 have g2 := f2.fp
 repeat' (first | refine aF ?_ | refine yc ?_ | refine sG (fun _ => ?_) fun _ => ?_ | refine aG ?_ | refine sH (fun _ => ?_) fun _ => ?_ | fail)
 refine B3 (w := 4) (hw := by decide) (hli := hli) (hlj := hlj) (h := f2.put) (hB := hB) (k := fun v3 H3 a3 o3 f3 V3 b3 c3 => ?_)
 have g3 := f3.fp
 repeat' (first | refine aF ?_ | refine yc ?_ | refine sG (fun _ => ?_) fun _ => ?_ | refine aG ?_ | refine sH (fun _ => ?_) fun _ => ?_ | fail)
 refine aTe (hli := hli) (hlj := hlj) (h := f3.put) (hB := hB) (k := fun v4 H4 a4 o4 f4 V4 b4 => ?_)
 have g4 := f4.fp
 repeat' (first | refine aF ?_ | refine yc ?_ | refine sG (fun _ => ?_) fun _ => ?_ | refine aG ?_ | refine sH (fun _ => ?_) fun _ => ?_ | fail)
 exact ⟨v1, v2, v3, v4, _, _, _, rfl, f4.put, V1, V2, V3, V4, b4⟩
theorem aJt {β : Type} {rs : List eJ} {e0 e1 e2 : aQ} {d : Nat} {xs : List X} {κ : aQ × aB → Option β} {Y : Option β → Prop} (hx : dB xs e0 = some ([.ptr i 0, .ptr p 0], e1) := by exact tHX) (hd : aX e1 d = e2 := by exact oX) (hc : gK e1 = true := by exact rfl) (hli : lm ≤ i) (hlj : lm ≤ j) (hlp : lm ≤ p) (h : PF G H i j p B r a o (O4 3 P N 0 0 L false 0 0 m0 0 0 0 m0)) (hB : B.length ≤ 1000000)
 (k : ∀ (b c q : Int) H' a' o', PF G H' i j p B (nx (nx (nx r (bR 1 0 1)) (bR 6 0 1099511627776)) O7) a' o' (O4 3 P N 0 0 L (b == 1) c q m0 0 0 0 m0) → Vl r (bR 1 0 1) b → Vl (nx r (bR 1 0 1)) (bR 6 0 1099511627776) c → Vl (nx (nx r (bR 1 0 1)) (bR 6 0 1099511627776)) O7 q → Ev (RR tab (some lm) rs ((d, .tup []) :: e2) H' κ) Y) :
 Ev (RR tab (some lm) ((some d, none, .call cF xs 0) :: rs) e0 H κ) Y := by
 obtain ⟨b, c, q, H', a', o', c1, s1, w1, w2, w3⟩ := (aJq h hli hlj hlp hB).so
 exact cI (k b c q H' a' o' s1 w1 w2 w3) hx c1 (by rw [hc, Bool.or_true]) hd
theorem aJu {β : Type} {rs : List eJ} {e0 e1 e2 : aQ} {d : Nat} {xs : List X} {κ : aQ × aB → Option β} {Y : Option β → Prop} (hx : dB xs e0 = some ([.ptr i 0, .ptr p 0], e1) := by exact tHX) (hd : aX e1 d = e2 := by exact oX) (hc : gK e1 = true := by exact rfl) (hli : lm ≤ i) (hlj : lm ≤ j) (hlp : lm ≤ p) (h : PF G H i j p B r a o (O4 4 P N 0 0 L false 0 0 m0 0 0 0 m0)) (hB : B.length ≤ 1000000)
 (k : ∀ (l : List Int) H' a' o', PF G H' i j p B (nx r P4) a' o' (O4 4 P N 0 0 L false 0 0 (.sl (some 1) l.length (enL l)) 0 0 0 m0) → Vl r P4 l → l.length ≤ 6 → Ev (RR tab (some lm) rs ((d, .tup []) :: e2) H' κ) Y) :
 Ev (RR tab (some lm) ((some d, none, .call cF xs 0) :: rs) e0 H κ) Y := by
 obtain ⟨l, H', a', o', c1, s1, w1, w2⟩ := (aJr h hli hlj hlp hB).so
 exact cI (k l H' a' o' s1 w1 w2) hx c1 (by rw [hc, Bool.or_true]) hd
theorem aJv {β : Type} {rs : List eJ} {e0 e1 e2 : aQ} {d : Nat} {xs : List X} {κ : aQ × aB → Option β} {Y : Option β → Prop} (hx : dB xs e0 = some ([.ptr i 0, .ptr p 0], e1) := by exact tHX) (hd : aX e1 d = e2 := by exact oX) (hc : gK e1 = true := by exact rfl) (hli : lm ≤ i) (hlj : lm ≤ j) (hlp : lm ≤ p) (h : PF G H i j p B r a o (O4 5 P N 0 0 L false 0 0 m0 0 0 0 m0)) (hB : B.length ≤ 1000000)
 (k : ∀ (f t q : Int) (b : List UInt8) H' a' o', PF G H' i j p B (nx (nx (nx (nx r (bR 1 0 5)) (bR 1 0 5)) (bR 4 1 2147483648)) rdB) a' o' (O4 5 P N 0 0 L false 0 0 m0 f t q (.sl (some 1) b.length (enL b))) → Vl r (bR 1 0 5) f → Vl (nx r (bR 1 0 5)) (bR 1 0 5) t → Vl (nx (nx r (bR 1 0 5)) (bR 1 0 5)) (bR 4 1 2147483648) q → Vl (nx (nx (nx r (bR 1 0 5)) (bR 1 0 5)) (bR 4 1 2147483648)) rdB b → b.length ≤ 24 → Ev (RR tab (some lm) rs ((d, .tup []) :: e2) H' κ) Y) :
 Ev (RR tab (some lm) ((some d, none, .call cF xs 0) :: rs) e0 H κ) Y := by
 obtain ⟨f, t, q, b, H', a', o', c1, s1, w1, w2, w3, w4, w5⟩ := (aJs h hli hlj hlp hB).so
 exact cI (k f t q b H' a' o' s1 w1 w2 w3 w4 w5) hx c1 (by rw [hc, Bool.or_true]) hd
def aF3 (f : Frame) : List V := O4 f.kind f.part f.node f.wait f.mask f.link f.flag f.cycle f.offset (.sl (some 1) f.ages.length (enL f.ages)) f.frm f.to f.seq (.sl (some 1) f.body.length (enL f.body))
set_option maxHeartbeats 4000000 in
theorem aM1 {k : Int} {l : List UInt8} (hk : bR 1 1 5 x = .ok (k, l)) (hk1 : 1 ≤ k ∧ k ≤ 5) (h : PF G H i j p B (.ok l) a o (O4 k 0 0 0 0 0 false 0 0 m0 0 0 0 m0)) (hli : lm ≤ i) (hlj : lm ≤ j) (hlp : lm ≤ p) (hB : B.length ≤ 1000000) :
 Ev (Call tab (some lm) jQ [.ptr i 0, .ptr p 0] H) (fun out => ∃ (R : vR) (F : Frame) (H' : aB) (a' : Nat) (o' : Option Nat), out = some (.tup [], H') ∧ PF G H' i j p B R a' o' (aF3 F) ∧ rdF x = fin R F) := by
 have g0 := h.fp
 unfold O4 m0 at *
 ((first | refine aC ?_ | skip); refine eE (cf := jT) rfl rfl rfl (by decide) ?_; unfold jT; dsimp only [aA, Nat.reduceAdd, Nat.zero_add])
 repeat' (first | refine aF ?_ | refine yc ?_ | refine sG (fun _ => ?_) fun _ => ?_ | refine aG ?_ | refine sH (fun _ => ?_) fun _ => ?_ | fail)
 refine tO (hli := hli) (hlj := hlj) (h := h) (hB := hB) (k := fun v1 H1 a1 o1 f1 V1 b1 c1 => ?_)
 have g1 := f1.fp
 repeat' (first | refine aF ?_ | refine yc ?_ | refine sG (fun _ => ?_) fun _ => ?_ | refine aG ?_ | refine sH (fun _ => ?_) fun _ => ?_ | fail)
 refine tO (hli := hli) (hlj := hlj) (h := f1) (hB := hB) (k := fun v2 H2 a2 o2 f2 V2 b2 c2 => ?_)
 have g2 := f2.fp
 have hd := aRg hk V1 V2
 generalize nx (nx (Except.ok l) (bR 1 0 5)) (bR 1 0 11) = R at *
 have hkk : k = 1 ∨ k = 2 ∨ k = 3 ∨ k = 4 ∨ k = 5 := by omega
 rcases hkk with rfl | rfl | rfl | rfl | rfl
 ·repeat' (first | refine aF ?_ | refine yc ?_ | refine sG (fun _ => ?_) fun _ => ?_ | refine aG ?_ | refine sH (fun _ => ?_) fun _ => ?_ | fail)
  refine B3 (w := 2) (hw := by decide) (hli := hli) (hlj := hlj) (h := f2.put) (hB := hB) (k := fun v3 H3 a3 o3 f3 V3 b3 c3 => ?_)
  have g3 := f3.fp
  repeat' (first | refine aF ?_ | refine yc ?_ | refine sG (fun _ => ?_) fun _ => ?_ | refine aG ?_ | refine sH (fun _ => ?_) fun _ => ?_ | fail)
  refine ⟨_, fr1 v1 v2 v3, _, a3, o3, rfl, ?_, by rw [hd, aWs V3]⟩
  unfold aF3 fr1
  simp only [aL, List.length_nil]
  exact f3.put
 ·repeat' (first | refine aF ?_ | refine yc ?_ | refine sG (fun _ => ?_) fun _ => ?_ | refine aG ?_ | refine sH (fun _ => ?_) fun _ => ?_ | fail)
  refine B3 (w := 6) (hw := by decide) (hli := hli) (hlj := hlj) (h := f2.put) (hB := hB) (k := fun v3 H3 a3 o3 f3 V3 b3 c3 => ?_)
  have g3 := f3.fp
  repeat' (first | refine aF ?_ | refine yc ?_ | refine sG (fun _ => ?_) fun _ => ?_ | refine aG ?_ | refine sH (fun _ => ?_) fun _ => ?_ | fail)
  refine B3 (w := 2) (hw := by decide) (hli := hli) (hlj := hlj) (h := f3.put) (hB := hB) (k := fun v4 H4 a4 o4 f4 V4 b4 c4 => ?_)
  have g4 := f4.fp
  repeat' (first | refine aF ?_ | refine yc ?_ | refine sG (fun _ => ?_) fun _ => ?_ | refine aG ?_ | refine sH (fun _ => ?_) fun _ => ?_ | fail)
  refine aM0 (hli := hli) (hlj := hlj) (h := f4.put) (hB := hB) (k := fun v5 H5 a5 o5 f5 V5 b5 => ?_)
  have g5 := f5.fp
  repeat' (first | refine aF ?_ | refine yc ?_ | refine sG (fun _ => ?_) fun _ => ?_ | refine aG ?_ | refine sH (fun _ => ?_) fun _ => ?_ | fail)
  refine ⟨_, fr2 v1 v2 v3 v4 v5, _, a5, o5, rfl, ?_, by rw [hd, aWt V3 V4 V5]⟩
  unfold aF3 fr2
  simp only [aL, List.length_nil]
  exact f5.put
 ·repeat' (first | refine aF ?_ | refine yc ?_ | refine sG (fun _ => ?_) fun _ => ?_ | refine aG ?_ | refine sH (fun _ => ?_) fun _ => ?_ | fail)
  refine tO (hli := hli) (hlj := hlj) (h := f2.put) (hB := hB) (k := fun v3 H3 a3 o3 f3 V3 b3 c3 => ?_)
  have g3 := f3.fp
  repeat' (first | refine aF ?_ | refine yc ?_ | refine sG (fun _ => ?_) fun _ => ?_ | refine aG ?_ | refine sH (fun _ => ?_) fun _ => ?_ | fail)
  refine aJt (hli := hli) (hlj := hlj) (hlp := hlp) (h := f3.put) (hB := hB) (k := fun b c q H4 a4 o4 f4 W1 W2 W3 => ?_)
  repeat' (first | refine aF ?_ | refine yc ?_ | refine sG (fun _ => ?_) fun _ => ?_ | refine aG ?_ | refine sH (fun _ => ?_) fun _ => ?_ | fail)
  refine ⟨_, fr3 v1 v2 v3 (b == 1) c q, _, a4, o4, rfl, ?_, by rw [hd, aWu V3 W1 W2 W3]⟩
  unfold aF3 fr3
  simp only [aL, List.length_nil]
  exact f4
 ·repeat' (first | refine aF ?_ | refine yc ?_ | refine sG (fun _ => ?_) fun _ => ?_ | refine aG ?_ | refine sH (fun _ => ?_) fun _ => ?_ | fail)
  refine tO (hli := hli) (hlj := hlj) (h := f2.put) (hB := hB) (k := fun v3 H3 a3 o3 f3 V3 b3 c3 => ?_)
  have g3 := f3.fp
  repeat' (first | refine aF ?_ | refine yc ?_ | refine sG (fun _ => ?_) fun _ => ?_ | refine aG ?_ | refine sH (fun _ => ?_) fun _ => ?_ | fail)
  refine aJu (hli := hli) (hlj := hlj) (hlp := hlp) (h := f3.put) (hB := hB) (k := fun l4 H4 a4 o4 f4 W1 b4 => ?_)
  repeat' (first | refine aF ?_ | refine yc ?_ | refine sG (fun _ => ?_) fun _ => ?_ | refine aG ?_ | refine sH (fun _ => ?_) fun _ => ?_ | fail)
  refine ⟨_, fr4 v1 v2 v3 l4, _, a4, o4, rfl, ?_, by rw [hd, aWv V3 W1]⟩
  unfold aF3 fr4
  simp only [aL, List.length_nil]
  exact f4
 ·repeat' (first | refine aF ?_ | refine yc ?_ | refine sG (fun _ => ?_) fun _ => ?_ | refine aG ?_ | refine sH (fun _ => ?_) fun _ => ?_ | fail)
  refine tO (hli := hli) (hlj := hlj) (h := f2.put) (hB := hB) (k := fun v3 H3 a3 o3 f3 V3 b3 c3 => ?_)
  have g3 := f3.fp
  repeat' (first | refine aF ?_ | refine yc ?_ | refine sG (fun _ => ?_) fun _ => ?_ | refine aG ?_ | refine sH (fun _ => ?_) fun _ => ?_ | fail)
  refine aJv (hli := hli) (hlj := hlj) (hlp := hlp) (h := f3.put) (hB := hB) (k := fun f t q b H4 a4 o4 f4 W1 W2 W3 W4 b4 => ?_)
  repeat' (first | refine aF ?_ | refine yc ?_ | refine sG (fun _ => ?_) fun _ => ?_ | refine aG ?_ | refine sH (fun _ => ?_) fun _ => ?_ | fail)
  refine ⟨_, fr5 v1 v2 v3 f t q b, _, a4, o4, rfl, ?_, by rw [hd, aWw V3 W1 W2 W3 W4]⟩
  unfold aF3 fr5
  simp only [aL, List.length_nil]
  exact f4
end
end Go.Abs
namespace Go.Abs
open Go.Proofs.YtpcnjabfiahhhaaGreatDoor
theorem aTm {s : Option Nat} {H : aB} {ts : List TypeId} {t u : TypeId} {v w : V} (h : ¬ t = u := by decide) : apply s (.ife false ts) [.ifc t v, .ifc u w] H = some (.bool false, H) := by
 show (((if t = u then _ else some false : Option Bool)).map fun b => V.bool (false != b)).map _ = _
 rw [if_neg h]; rfl
theorem aTn {s : Option Nat} {H : aB} {ts : List TypeId} {t : TypeId} {k : IntKind} {a b : Int} (h : ts.contains t = true := by decide) : apply s (.ife false ts) [.ifc t (.int k a), .ifc t (.int k b)] H = some (.bool (a == b), H) := by
 show (((if t = t then (if ts.contains t = true ∧ k = k then some (a == b) else none) else some false : Option Bool)).map fun c => V.bool (false != c)).map _ = _
 rw [if_pos rfl, if_pos ⟨h, rfl⟩]
 show some (V.bool (false != (a == b)), H) = _
 rw [Bool.false_bne]
theorem aTo {s : Option Nat} {H : aB} {ts : List TypeId} {t : TypeId} {v : V} : apply s (.ife false ts) [.nili, .ifc t v] H = some (.bool false, H) := rfl
theorem aTp {s : Option Nat} {H : aB} {ts ns : List TypeId} {t : TypeId} {v : V} (h : ts.contains t = true := by decide) : apply s (.tai ts ns true) [.ifc t v] H = some (.tup [.ifc t v, .bool true], H) := by
 show (if ts.contains t = true then some (V.tup [.ifc t v, .bool true]) else _).map _ = _
 rw [if_pos h]; rfl
theorem aTq {s : Option Nat} {H : aB} {ts ns : List TypeId} {t : TypeId} {v : V} (h : ts.contains t = false := by decide) (h2 : ns.contains t = true := by decide) : apply s (.tai ts ns true) [.ifc t v] H = some (.tup [.nili, .bool false], H) := by
 show (if ts.contains t = true then _ else if (ns.contains t && true) = true then some (V.tup [.nili, .bool false]) else none).map _ = _
 rw [if_neg (by rw [h]; decide), if_pos (by rw [h2]; rfl)]; rfl
theorem aXl {s : Option Nat} {H : aB} {rt gs : Nat} {g : FuncId} {t : TypeId} {v : V} : apply s (.tyo rt gs g) [.fn g [], .ifc t v] H = some (.ifc rt (.agg [.raw gs t]), H) := by
 show (if g = g then some (V.ifc rt (.agg [.raw gs t])) else none).map _ = _
 rw [if_pos rfl]; rfl
theorem aXm {s : Option Nat} {H : aB} {rt gs : Nat} {g : FuncId} {ts : List TypeId} {t : TypeId} (h : ts.contains t = true := by decide) : apply s (.cmb rt gs g ts) [.ifc rt (.agg [.raw gs t])] H = some (.bool true, H) := by
 show (if rt = rt ∧ gs = gs ∧ ts.contains t = true then some (V.bool true) else none).map _ = _
 rw [if_pos ⟨rfl, rfl, h⟩]; rfl
attribute [local irreducible] enL R RR dF cZ lV dE dG mP apply dB eI aX aZ cO aW fB aP aN cK bN gL cA V.rb V.rbL
theorem aXn {β : Type} {T : Tab} {s : Option Nat} {H : aB} {d : Nat} {f : FuncId} {t : TypeId} {u : V} {tbl : List (TypeId × FuncId)} {x : X} {xs : List X} {rs : List eJ} {e e0 e1 e2 : aQ} {H1 : aB} {vs : List V} {v : V} {κ : aQ × aB → Option β} {Y : Option β → Prop} (k : Ev (RR T s rs ((d, v) :: e2) H1 κ) Y) (hf : eI x e = some (.ifc t u, e0) := by exact tEX) (hl : tbl.lookup t = some f := by exact rfl) (hx : dB xs e0 = some (vs, e1) := by exact tHX) (ha : Call T s f (u.dis :: vs) H = some (v, H1) := by assumption) (hw : (T.pu f || gK e1) = true := by exact rfl) (hd : aX e1 d = e2 := by exact oX) :
 Ev (RR T s ((some d, none, .cam tbl x xs) :: rs) e H κ) Y := by
 refine xD ?_ k
 simp only [mY, step, hf, hl, hx, Option.bind_some, hw, if_true, ha, Option.map_some, sN, vB, hd]
section
variable {H : aB} {f : Nat} {t k n : Int} {s : Option Nat}
theorem aMj (h : H[f]? = some (fC t k)) : Call tab s g9 [.ptr f 0] H = some (.ifc 244 (.int .i64 k), H) := by
 unfold fC at *
 ((first | refine aC ?_ | skip); refine z9 (cf := kZ) rfl rfl rfl rfl (by first | exact aDb | exact rb_ptr0 | exact rb_ar0) ?_; unfold kZ; dsimp only [aA, Nat.reduceAdd, Nat.zero_add])
 repeat' (first | refine aF ?_ | refine yc ?_ | refine sG (fun _ => ?_) fun _ => ?_ | refine aG ?_ | refine sH (fun _ => ?_) fun _ => ?_ | fail)
 rfl
set_option maxHeartbeats 1000000 in
theorem aXo (h : H[f]? = some (fC t k)) : Call tab s g7 [.ifc 243 (.ptr f 0), .ifc 244 (.int .i64 n), .bool true] H = some (.bool (k == n), H) := by
 have hb : V.rbL 0 [.ifc 243 (.ptr f 0), .ifc 244 (.int .i64 n), .bool true] = false := by simp [V.rbL, V.rb]
 have hu := fun s => aMj (s := s) h
 ((first | refine aC ?_ | skip); refine z9 (cf := i8) rfl rfl rfl rfl hb ?_; unfold i8; dsimp only [aA, Nat.reduceAdd, Nat.zero_add])
 repeat' (first | refine aF ?_ | refine yc ?_ | refine sG (fun _ => ?_) fun _ => ?_ | refine aG ?_ | refine sH (fun _ => ?_) fun _ => ?_ | fail)
 refine aE ?_
 unfold r9
 repeat' (first | refine aF ?_ | refine yc ?_ | refine sG (fun _ => ?_) fun _ => ?_ | refine aG ?_ | refine sH (fun _ => ?_) fun _ => ?_ | fail)
 refine aXn ?_ (ha := hu _)
 repeat' (first | refine aF ?_ | refine yc ?_ | refine sG (fun _ => ?_) fun _ => ?_ | refine aG ?_ | refine sH (fun _ => ?_) fun _ => ?_ | fail)
 refine oR (R8 (Nat.le_refl _)) ?_
 refine aE ?_
 by_cases hkn : k = n
 ·repeat' (first | refine aF ?_ | refine yc ?_ | refine sG (fun _ => ?_) fun _ => ?_ | refine aG ?_ | refine sH (fun _ => ?_) fun _ => ?_ | fail)
  rw [show (k == n) = true by simpa using hkn]
 ·repeat' (first | refine aF ?_ | refine yc ?_ | refine sG (fun _ => ?_) fun _ => ?_ | refine aG ?_ | refine sH (fun _ => ?_) fun _ => ?_ | fail)
  rw [show (k == n) = false by simpa using hkn]
theorem aXp (h : H[f]? = some (fC t k)) : Call tab s qM [.ifc 243 (.ptr f 0), .ifc 244 (.int .i64 n)] H = some (.bool (k == n), H) := by
 have hb : V.rbL 0 [.ifc 243 (.ptr f 0), .ifc 244 (.int .i64 n)] = false := by simp [V.rbL, V.rb]
 have hu := fun s => aXo (s := s) (n := n) h
 ((first | refine aC ?_ | skip); refine z9 (cf := qF) rfl rfl rfl rfl hb ?_; unfold qF; dsimp only [aA, Nat.reduceAdd, Nat.zero_add])
 repeat' (first | refine aF ?_ | refine yc ?_ (ha := by first | exact hu _ | assumption) | refine sG (fun _ => ?_) fun _ => ?_ | refine aG ?_ | refine sH (fun _ => ?_) fun _ => ?_ | fail)
 rfl
theorem aMk : Call tab s qM [.nili, .ifc 244 (.int .i64 n)] H = some (.bool false, H) := by
 ((first | refine aC ?_ | skip); refine bE (cf := qF) rfl rfl rfl rfl ?_; unfold qF; dsimp only [aA, Nat.reduceAdd, Nat.zero_add])
 repeat' (first | refine aF ?_ | refine yc ?_ | refine sG (fun _ => ?_) fun _ => ?_ | refine aG ?_ | refine sH (fun _ => ?_) fun _ => ?_ | fail)
 rfl
theorem aTr : Call tab s sT [.nili] H = some (.int .i64 0, H) := by
 ((first | refine aC ?_ | skip); refine bE (cf := lJ) rfl rfl rfl rfl ?_; unfold lJ; dsimp only [aA, Nat.reduceAdd, Nat.zero_add])
 repeat' (first | refine aF ?_ | refine yc ?_ | refine sG (fun _ => ?_) fun _ => ?_ | refine aG ?_ | refine sH (fun _ => ?_) fun _ => ?_ | fail)
 refine aE ?_
 unfold pO
 repeat' (first | refine aF ?_ | refine yc ?_ (ha := by first | exact aMk | assumption) | refine sG (fun _ => ?_) fun _ => ?_ | refine aG ?_ | refine sH (fun _ => ?_) fun _ => ?_ | fail)
 repeat (refine oR (R8 (Nat.le_refl _)) ?_; refine aE ?_; repeat' (first | refine aF ?_ | refine yc ?_ (ha := by first | exact aMk | assumption) | refine sG (fun _ => ?_) fun _ => ?_ | refine aG ?_ | refine sH (fun _ => ?_) fun _ => ?_ | fail))
 rfl
theorem aXq (h : H[f]? = some (fC t k)) (hk : k = 2 ∨ k = 3 ∨ k = 4 ∨ k = 5 ∨ k = 6) : Call tab s sT [.ifc 243 (.ptr f 0)] H = some (.int .i64 k, H) := by
 have hb : V.rbL 0 [.ifc 243 (.ptr f 0)] = false := by simp [V.rbL, V.rb]
 have hu := fun n s => aXp (s := s) (n := n) h
 rcases hk with rfl | rfl | rfl | rfl | rfl
 all_goals (
  ((first | refine aC ?_ | skip); refine z9 (cf := lJ) rfl rfl rfl rfl hb ?_; unfold lJ; dsimp only [aA, Nat.reduceAdd, Nat.zero_add])
  repeat' (first | refine aF ?_ | refine yc ?_ | refine sG (fun _ => ?_) fun _ => ?_ | refine aG ?_ | refine sH (fun _ => ?_) fun _ => ?_ | fail)
  refine aE ?_
  unfold pO
  repeat' (first | refine aF ?_ | refine yc ?_ (ha := by first | exact hu _ _ | assumption) | refine sG (fun _ => ?_) fun _ => ?_ | refine aG ?_ | refine sH (fun _ => ?_) fun _ => ?_ | fail)
  repeat (refine oR (R8 (Nat.le_refl _)) ?_; refine aE ?_; repeat' (first | refine aF ?_ | refine yc ?_ (ha := by first | exact hu _ _ | assumption) | refine sG (fun _ => ?_) fun _ => ?_ | refine aG ?_ | refine sH (fun _ => ?_) fun _ => ?_ | fail))
  all_goals rfl)
end
end Go.Abs
namespace Go.Abs
open Go.Proofs.YtpcnjabfiahhhaaGreatDoor
def aRo (H : aB) (ev : V) (e : Int) : Prop := (e = 0 ∧ ev = .nili) ∨ ∃ (f : Nat) (t : Int), ev = .ifc 243 (.ptr f 0) ∧ H[f]? = some (fC t e) ∧ (e = 2 ∨ e = 3 ∨ e = 4 ∨ e = 5 ∨ e = 6)
abbrev zfC : List V := O4 0 0 0 0 0 0 false 0 0 m0 0 0 0 m0
theorem aYs {x : List UInt8} {y : UInt8} (h : x[0]? = some y) : cW (x.take 1) = (y.toNat : Int) := by
 cases x with
 | nil => simp at h
 | cons z x => obtain rfl : z = y := by simpa using h
               simp [cW]
theorem aYt {H : aB} {f : Nat} {c : List V} {t k : Int} (h : H[f]? = some (fC t k)) (h1 : H[1]? = some c) (hc : c.length = 14) (d : List V) : (H.set 1 d)[f]? = some (fC t k) := by
 have : (1 : Nat) ≠ f := by
  rintro rfl
  have e := congrArg List.length (Option.some.inj (h1.symm.trans h))
  rw [hc] at e; simp [fC] at e
 rw [List.getElem?_set_ne this]; exact h
attribute [local irreducible] enL R RR dF cZ lV dE dG mP apply dB eI aX aZ cO aW fB aP aN cK bN gL cA V.rb V.rbL
theorem aUj {s : Option Nat} {H : aB} {l : List UInt8} (hl : l.length ≤ 1000000) : Call tab s aA5 [.sl none l.length (enL l)] H = some (.ptr H.length 0, H ++ [wC l 0]) := by
 unfold wC
 ((first | refine aC ?_ | skip); refine eE (cf := z8) rfl rfl rfl (by decide) ?_; unfold z8; dsimp only [aA, Nat.reduceAdd, Nat.zero_add])
 repeat' (first | refine aF ?_ | refine yc ?_ | refine sG (fun _ => ?_) fun _ => ?_ | refine aG ?_ | refine sH (fun _ => ?_) fun _ => ?_ | fail)
 rfl
theorem aNh {β : Type} {rs : List eJ} {e0 e1 e2 : aQ} {d : Nat} {xs : List X} {κ : aQ × aB → Option β} {Y : Option β → Prop} {G H : aB} {B l x : List UInt8} {a i j p lm : Nat} {o : Option Nat} {k : Int} (hx : dB xs e0 = some ([.ptr i 0, .ptr p 0], e1) := by exact tHX) (hd : aX e1 d = e2 := by exact oX) (hc : gK e1 = true := by exact rfl) (hk : bR 1 1 5 x = .ok (k, l)) (hk1 : 1 ≤ k ∧ k ≤ 5) (hli : lm ≤ i) (hlj : lm ≤ j) (hlp : lm ≤ p) (h : PF G H i j p B (.ok l) a o (O4 k 0 0 0 0 0 false 0 0 m0 0 0 0 m0)) (hB : B.length ≤ 1000000)
 (c : ∀ (R : vR) (F : Frame) H' a' o', PF G H' i j p B R a' o' (aF3 F) → rdF x = fin R F → Ev (RR tab (some lm) rs ((d, .tup []) :: e2) H' κ) Y) :
 Ev (RR tab (some lm) ((some d, none, .call jQ xs 0) :: rs) e0 H κ) Y := by
 obtain ⟨R, F, H', a', o', c1, s1, q1⟩ := (aM1 hk hk1 h hli hlj hlp hB).so
 exact cI (c R F H' a' o' s1 q1) hx c1 (by rw [hc, Bool.or_true]) hd
set_option maxHeartbeats 4000000 in
theorem aQm {b : List UInt8} (hb : b.length ≤ 1000000) :
 Ev (Call tab (some 0) qA [.sl none b.length (enL b)] [zfC]) (fun out => ∃ H' ev, out = some (.tup [(yU b).v, ev], H') ∧ H'[0]? = some zfC ∧ aRo H' ev (C0 b)) := by
 by_cases h7 : b.length < 7
 ·have hd : dec b = .error 2 := by unfold dec; rw [if_pos h7]
  rw [jM hd, jP hd]
  unfold Frame.v fr0
  have h7' : (b.length : Int) < 7 := by omega
  ((first | refine aC ?_ | skip); refine eE (cf := eC) rfl rfl rfl (by decide) ?_; unfold eC; dsimp only [aA, Nat.reduceAdd, Nat.zero_add])
  repeat' (first | refine aF ?_ | refine yc ?_ | refine sG (fun _ => ?_) fun _ => ?_ | refine aG ?_ | refine sH (fun _ => ?_) fun _ => ?_ | fail)
  exact ⟨_, _, by simp only [aL, List.length_nil]; rfl, rfl, .inr ⟨_, _, rfl, rfl, .inl rfl⟩⟩
 have h7' : ¬ (b.length : Int) < 7 := by omega
 have ho := fun s H => aV6 (s := s) (H := H) (b := b) (by omega)
 have hw4 : IntKind.i64.wrap ((b.length : Int) - 4) = (b.length : Int) - 4 := IntWalk.i64_in _ (by omega)
 by_cases h4 : opn b = true
 rotate_left
 ·have hd : dec b = .error 4 := by unfold dec; rw [if_neg h7, if_neg h4]
  rw [jM hd, jP hd]
  rw [if_neg h4] at ho
  unfold Frame.v fr0
  ((first | refine aC ?_ | skip); refine eE (cf := eC) rfl rfl rfl (by decide) ?_; unfold eC; dsimp only [aA, Nat.reduceAdd, Nat.zero_add])
  repeat' (first | refine aF ?_ | refine yc ?_ (ha := by first | exact ho _ _ | assumption) | refine sG (fun _ => ?_) fun _ => ?_ | refine aG ?_ | refine sH (fun _ => ?_) fun _ => ?_ | fail)
  exact ⟨_, _, by simp only [aL, List.length_nil]; rfl, rfl, .inr ⟨_, _, rfl, rfl, by decide⟩⟩
 rw [if_pos h4] at ho
 have hdx : dec b = if 1 ≤ rE (b.take (b.length - 4)) ∧ rE (b.take (b.length - 4)) ≤ 5 then rdF (b.take (b.length - 4)) else .error 5 := by unfold dec; rw [if_neg h7, if_pos h4]
 have hxl : (b.take (b.length - 4)).length = b.length - 4 := by rw [List.length_take]; omega
 have hb0 : (b.take (b.length - 4))[0]? = b[0]? := by rw [List.getElem?_take, if_pos (by omega)]
 generalize b.take (b.length - 4) = x at *
 obtain ⟨x0, hx0⟩ : ∃ y, x[0]? = some y := ⟨x[0]'(by omega), by rw [List.getElem?_eq_getElem]⟩
 rw [hx0] at hb0
 have hb0 := hb0.symm
 have h0b : (0 : Int) < (b.length : Int) := by omega
 have hk0 : rE x = (x0.toNat : Int) := by unfold rE; rw [List.getD_eq_getElem?_getD, hx0]; rfl
 have h0 : (0 : Int) < (x.length : Int) := by omega
 have hB : x.length ≤ 1000000 := by omega
 have hx2 := x0.toNat_lt
 have hwx : IntKind.i64.wrap (x0.toNat : Int) = x0.toNat := IntWalk.i64_in _ (by omega)
 have hba := fun s H => aUs (s := s) (H := H) (f := ⟨x0.toNat, 0, 0, 0, 0, 0, false, 0, 0, [], 0, 0, 0, []⟩)
 simp only [Frame.v, aL, List.length_nil] at hba
 by_cases hk : 1 ≤ rE x ∧ rE x ≤ 5
 rotate_left
 ·rw [if_neg hk] at hdx
  rw [jM hdx, jP hdx]
  rw [hk0] at hk
  rw [decide_eq_false hk] at hba
  unfold Frame.v fr0
  ((first | refine aC ?_ | skip); refine eE (cf := eC) rfl rfl rfl (by decide) ?_; unfold eC; dsimp only [aA, Nat.reduceAdd, Nat.zero_add])
  repeat' (first | refine aF ?_ | refine yc ?_ (ha := by first | exact ho _ _ | exact hba _ _ | assumption) | refine sG (fun _ => ?_) fun _ => ?_ | refine aG ?_ | refine sH (fun _ => ?_) fun _ => ?_ | fail)
  exact ⟨_, _, by simp only [aL, List.length_nil]; rfl, rfl, .inr ⟨_, _, rfl, rfl, by decide⟩⟩
 rw [if_pos hk] at hdx
 rw [hk0] at hk
 rw [decide_eq_true hk] at hba
 have hrk := aIo (x := x) (k := (x0.toNat : Int)) (by omega) hk0 hk.1 hk.2
 have hnw := fun s H => aUj (s := s) (H := H) (l := x) hB
 have hnum := fun (H : aB) (j : Nat) (h : H[j]? = some (wC x 0)) => aMg (lm := 0) (n := 1) h (Nat.zero_le _) (by omega) hB (by decide)
 rw [List.drop_zero, aYs hx0] at hnum
 generalize spare ⟨x0.toNat, 0, 0, 0, 0, 0, false, 0, 0, [], 0, 0, 0, []⟩ = y at hba
 ((first | refine aC ?_ | skip); refine eE (cf := eC) rfl rfl rfl (by decide) ?_; unfold eC; dsimp only [aA, Nat.reduceAdd, Nat.zero_add])
 repeat' (first | refine aF ?_ | refine yc ?_ (ha := by first | exact ho _ _ | exact hba _ _ | exact hnw _ _ | assumption) | refine sG (fun _ => ?_) fun _ => ?_ | refine aG ?_ | refine sH (fun _ => ?_) fun _ => ?_ | fail)
 simp only [List.nil_append, List.cons_append, List.length_cons, List.length_nil, Nat.reduceAdd, Nat.zero_add, List.set_cons_succ, List.set_cons_zero]
 refine cI ?_ (ha := hnum _ 3 rfl)
 simp only [List.nil_append, List.cons_append, List.length_cons, List.length_nil, Nat.reduceAdd, Nat.zero_add, List.set_cons_succ, List.set_cons_zero]
 repeat' (first | refine aF ?_ | refine yc ?_ | refine sG (fun _ => ?_) fun _ => ?_ | refine aG ?_ | refine sH (fun _ => ?_) fun _ => ?_ | fail)
 simp only [List.nil_append, List.cons_append, List.length_cons, List.length_nil, Nat.reduceAdd, Nat.zero_add, List.set_cons_succ, List.set_cons_zero]
 refine aNh (i := 4) (j := 3) (p := 5) (a := 1) (o := none) (hk := hrk) (hk1 := hk) (hli := Nat.zero_le _) (hlj := Nat.zero_le _) (hlp := Nat.zero_le _) (hB := hB) (h := ⟨⟨rfl, rfl, by omega, by decide, .inl ⟨rfl, rfl⟩⟩, rfl, by decide, by decide, rfl, Nat.le_refl _, fun _ _ _ _ _ => rfl⟩) (c := fun R F H' a' o' f hd => ?_)
 have g0 : H'[0]? = some zfC := f.same 0 (by simp) (by decide) (by decide) (by decide)
 have g1 : H'[1]? = some zfC := f.same 1 (by simp) (by decide) (by decide) (by decide)
 have gr := f.ps.ri
 have gw := f.ps.wj
 have gf := f.fp
 have hlen : 5 < H'.length := (List.getElem?_eq_some_iff.1 gf).1
 rw [hd] at hdx
 cases o' with
 | some e =>
   obtain ⟨q, t, hR, hf, hq⟩ : ∃ q t, R = .error q ∧ H'[e]? = some (fC t q) ∧ (q = 2 ∨ q = 6) := by
    rcases f.ps.is with ⟨h, _⟩ | ⟨e', q, t, h, hR, hf, hq, _⟩
    ·cases h
    ·cases h; exact ⟨q, t, hR, hf, hq⟩
   rw [aCc hR] at hdx
   rw [jM hdx, jP hdx]
   have g1' := g1
   unfold Frame.v fr0
   unfold rC P8 at gr
   unfold zfC O4 m0 at g1
   repeat' (first | refine aF ?_ | refine yc ?_ | refine sG (fun _ => ?_) fun _ => ?_ | refine aG ?_ | refine sH (fun _ => ?_) fun _ => ?_ | fail)
   exact ⟨_, _, by simp only [aL, List.length_nil]; rfl, by rw [List.getElem?_set_ne (by decide)]; exact g0, .inr ⟨_, _, rfl, aYt hf g1' rfl _, by omega⟩⟩
 | none =>
   have hR := f.ps.good
   have ha := f.ps.hi
   have hle := fun s => aDc (s := s) gw hB ha
   have hat := fun s => aIi (s := s) gw
   by_cases hl : (0 : Int) < (x.length : Int) - a'
   ·rw [aCd hR (by rw [List.length_drop]; omega)] at hdx
    have hfa := aEh (lm := 0) (t := (a' : Int)) (k := 3) f.ps.ri (Nat.zero_le _)
    have q1 : ((H' ++ [fC (a' : Int) 3]).set 4 (rC 3 (some H'.length)))[4]? = some (rC 3 (some H'.length)) := by rw [List.getElem?_set_self (by simp; omega)]
    have q2 : ((H' ++ [fC (a' : Int) 3]).set 4 (rC 3 (some H'.length)))[1]? = some zfC := by rw [List.getElem?_set_ne (by decide), List.getElem?_append_left (by omega)]; exact g1
    have q3 : ((H' ++ [fC (a' : Int) 3]).set 4 (rC 3 (some H'.length)))[H'.length]? = some (fC (a' : Int) 3) := by rw [List.getElem?_set_ne (by omega), List.getElem?_append_right (Nat.le_refl _)]; simp
    have q4 : ((H' ++ [fC (a' : Int) 3]).set 4 (rC 3 (some H'.length)))[0]? = some zfC := by rw [List.getElem?_set_ne (by decide), List.getElem?_append_left (by omega)]; exact g0
    generalize (H' ++ [fC (a' : Int) 3]).set 4 (rC 3 (some H'.length)) = K at *
    rw [jM hdx, jP hdx]
    have q2' := q2
    unfold Frame.v fr0
    unfold rC P8 at gr q1
    unfold zfC O4 m0 at q2
    repeat' (first | refine aF ?_ | refine yc ?_ (ha := by first | exact hle _ | exact hat _ | exact hfa | assumption) | refine sG (fun _ => ?_) fun _ => ?_ | refine aG ?_ | refine sH (fun _ => ?_) fun _ => ?_ | fail)
    exact ⟨_, _, by simp only [aL, List.length_nil]; rfl, by rw [List.getElem?_set_ne (by decide)]; exact q4, .inr ⟨_, _, rfl, aYt q3 q2' rfl _, by decide⟩⟩
   ·rw [aCe hR (by rw [List.length_drop]; omega)] at hdx
    rw [J2 hdx, J3 hdx]
    unfold aF3 O4 at gf
    unfold Frame.v
    unfold rC P8 at gr
    unfold zfC O4 m0 at g1
    repeat' (first | refine aF ?_ | refine yc ?_ (ha := by first | exact hle _ | assumption) | refine sG (fun _ => ?_) fun _ => ?_ | refine aG ?_ | refine sH (fun _ => ?_) fun _ => ?_ | fail)
    exact ⟨_, _, rfl, by rw [List.getElem?_set_ne (by decide)]; exact g0, .inl ⟨rfl, rfl⟩⟩
theorem aQn {β : Type} {rs : List eJ} {e0 e1 e2 : aQ} {d : Nat} {xs : List X} {κ : aQ × aB → Option β} {Y : Option β → Prop} {b : List UInt8} (hx : dB xs e0 = some ([.sl none b.length (enL b)], e1) := by exact tHX) (hd : aX e1 d = e2 := by exact oX) (hc : (tab.pu qA || gK e1) = true := by exact rfl) (hb : b.length ≤ 1000000)
 (k : ∀ H' ev, H'[0]? = some zfC → aRo H' ev (C0 b) → Ev (RR tab (some 0) rs ((d, .tup [(yU b).v, ev]) :: e2) H' κ) Y) : Ev (RR tab (some 0) ((some d, none, .call qA xs 0) :: rs) e0 [zfC] κ) Y := by
 obtain ⟨H', ev, c, g, h⟩ := (aQm hb).so
 exact cI (k H' ev g h) hx c hc hd
theorem aNi {s : Option Nat} {H : aB} {b : List UInt8} (hb : b.length ≤ 1000000) : Call tab s f8 [.sl none b.length (enL b)] H = some (.tup [(yU b).v, .int .i64 (C0 b)], H) := by
 ((first | refine aC ?_ | skip); refine bE (cf := sJ) rfl rfl rfl rfl ?_; unfold sJ; dsimp only [aA, Nat.reduceAdd, Nat.zero_add])
 repeat' (first | refine aF ?_ | refine yc ?_ | refine sG (fun _ => ?_) fun _ => ?_ | refine aG ?_ | refine sH (fun _ => ?_) fun _ => ?_ | fail)
 simp only [List.nil_append, List.cons_append, List.length_cons, List.length_nil, Nat.reduceAdd, Nat.zero_add, List.set_cons_succ, List.set_cons_zero]
 refine aQn (hb := hb) (k := fun H' ev g0 hE => ?_)
 have hlen : 0 < H'.length := (List.getElem?_eq_some_iff.1 g0).1
 unfold zfC O4 m0 at g0
 unfold Frame.v
 rcases hE with ⟨he, rfl⟩ | ⟨f, t, rfl, hf, hk⟩
 ·have hn := fun s H => aTr (s := s) (H := H)
  rw [he]
  repeat' (first | refine aF ?_ | refine yc ?_ (ha := by first | exact hn _ _ | assumption) | refine sG (fun _ => ?_) fun _ => ?_ | refine aG ?_ | refine sH (fun _ => ?_) fun _ => ?_ | fail)
  rfl
 ·have hf2 : ∀ c, (H' ++ [c])[f]? = some (fC t (C0 b)) := fun c => by rw [List.getElem?_append_left (List.getElem?_eq_some_iff.1 hf).1]; exact hf
  have hn := fun c s => aXq (s := s) (hf2 c) hk
  repeat' (first | refine aF ?_ | refine yc ?_ (ha := by first | exact hn _ _ | assumption) | refine sG (fun _ => ?_) fun _ => ?_ | refine aG ?_ | refine sH (fun _ => ?_) fun _ => ?_ | fail)
  rfl
end Go.Abs
