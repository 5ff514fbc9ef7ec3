/- A part of the proof of RowAirFits, RowAirHeard, RowAirOrder, RowAirLost: lemmas alone, without conditions. -/
import Derived.Test.YtpcnjabfiahhhaaGreatDoorK34
import Derived.Test.YtpcnjabfiahhhaaGreatDoorK41
import Derived.Test.YtpcnjabfiahhhaaGreatDoorK42
import Derived.Test.YtpcnjabfiahhhaaGreatDoorK43
import Derived.Test.YtpcnjabfiahhhaaGreatDoorK44
import Derived.Test.YtpcnjabfiahhhaaGreatDoorK45
import Derived.Test.YtpcnjabfiahhhaaGreatDoorK46
import Derived.Test.YtpcnjabfiahhhaaGreatDoorK47
import Derived.Test.YtpcnjabfiahhhaaGreatDoorK36
import Derived.Test.YtpcnjabfiahhhaaGreatDoorK21
import Derived.JoinedOf
set_option linter.all false
namespace Go.Abs
open Go.Proofs.YtpcnjabfiahhhaaGreatDoor
theorem aId {k : Nat} (hk : k < 8) (x : Nums) : PortR (pA k x) (fQ k) := fun s H p n hp => by
 rw [show fQ k p = y0 p (U5 k) 0 from if_pos hp]
 exact aO8 (c := pA k x) (k8 (Q := fun k => (U5 k).length ≤ 10) (by constructor <;> decide) k hk) (k8 (Q := fun k => ∀ x ∈ U5 k, ¬ x.a = x.b) (by constructor <;> decide) k hk) s H p n hp
def aMc (l : List Port) (m : List Slot) : Bool := m.all fun s => decide (2 ≤ s.kind ∧ s.kind ≤ 5) && (decide (s.kind < 3) || !decide (gU l s.node < 0))
theorem aK1 {l : List Port} {m : List Slot} (h : aMc l m = true) : ∀ s ∈ m, 2 ≤ s.kind ∧ s.kind ≤ 5 ∧ (3 ≤ s.kind → ¬ gU l s.node < 0) := by
 intro s hs
 have := List.all_eq_true.1 h s hs
 simp only [Bool.and_eq_true, Bool.or_eq_true, decide_eq_true_eq, Bool.not_eq_true', decide_eq_false_iff_not] at this
 exact ⟨this.1.1, this.1.2, fun h3 => this.2.elim (fun h => by omega) id⟩
theorem aIe (k : Nat) : SlotR (fQ k) (jK k) := by
 intro p
 by_cases h : k < 8 ∧ p < (dL k).length
 ·exact aK1 (kp (Q := fun k p => aMc (fQ k p) (jK k p) = true) (by constructor <;> kernel_rfl) k p h.1 h.2)
 ·rw [(aEl h).1]; intro s hs; cases hs
theorem aFc {s : Option Nat} {H : aB} (m : Int) : ∃ (k : Nat) (x : Nums), k < 8 ∧ NumOK ((dL k).length : Int) x ∧ Call tab s aR [.int .i64 m] H = some ((pA k x).v, H) := by
 have hc : 1 + m % 65536 % 4 = 1 ∨ 1 + m % 65536 % 4 = 2 ∨ 1 + m % 65536 % 4 = 3 ∨ 1 + m % 65536 % 4 = 4 := by omega
 have hs : (¬ m % 65536 / 4 % 4 = 1 ∧ ¬ m % 65536 / 4 % 4 = 2) ∨ m % 65536 / 4 % 4 = 1 ∨ m % 65536 / 4 % 4 = 2 := by omega
 have q : ∀ {k : Nat} {n : Int}, k < 8 → n = ((dL k).length : Int) → (∃ x, NumOK n x ∧ Call tab s aR [.int .i64 m] H = some ((pA k x).v, H)) → ∃ (k : Nat) (x : Nums), k < 8 ∧ NumOK ((dL k).length : Int) x ∧ Call tab s aR [.int .i64 m] H = some ((pA k x).v, H) := by
  rintro k n hk rfl ⟨x, hx, h⟩; exact ⟨k, x, hk, hx, h⟩
 rcases hc with hc | hc | hc | hc
 ·exact q (k := 0) (n := 1) (by decide) rfl (aUw hc)
 ·exact q (k := 1) (n := 2) (by decide) rfl (aUx hc)
 ·rcases hs with hs | hs | hs
  ·exact q (k := 2) (n := 3) (by decide) rfl (aUo hc hs)
  ·exact q (k := 3) (n := 3) (by decide) rfl (aV7 hc hs)
  ·exact q (k := 4) (n := 3) (by decide) rfl (aUp hc hs)
 ·rcases hs with hs | hs | hs
  ·exact q (k := 5) (n := 4) (by decide) rfl (aUd hc hs)
  ·exact q (k := 6) (n := 4) (by decide) rfl (aUh hc hs)
  ·exact q (k := 7) (n := 4) (by decide) rfl (aTd hc hs)
theorem aMd {s : Option Nat} {H : aB} (m : Int) : ∃ (c : Config) (P : Nat → List Port) (S : Nat → List Slot), NetR c P S ∧ (∀ p, (S p).length ≤ 1000) ∧ PortR c P ∧ (∀ p, (P p).length ≤ 1000) ∧ SlotR P S ∧ Call tab s aR [.int .i64 m] H = some (c.v, H) := by
 obtain ⟨k, x, hk, hx, h⟩ := aFc (s := s) (H := H) m
 exact ⟨_, _, _, aKu hk hx, fun p => (aCy k p).1, aId hk x, fun p => (aCy k p).2, aIe k, h⟩
end Go.Abs
namespace Go.Abs
open Go.Proofs.YtpcnjabfiahhhaaGreatDoor
attribute [local irreducible] enL R RR dF cZ lV dE dG mP apply dB eI aX aZ cO aW fB aP aN cK bN gL cA V.rb V.rbL
abbrev m4 : Ty := .st [.int .i64, .int .i64, .int .i64, .int .i64, .int .i64, .int .i64, .bool, .int .i64, .int .i64, .sl (.int .i64), .int .i64, .int .i64, .int .i64, .sl (.int .u8)]
theorem aFg {cs : List V} (h : tC m4 cs) : ∃ x : Frame, cs = Cel.enc x ∧ True := by
 simp only [m4, tC, TyL] at h
 obtain ⟨_, _, rfl, ⟨a, rfl, _⟩, _, _, rfl, ⟨b, rfl, _⟩, _, _, rfl, ⟨c, rfl, _⟩, _, _, rfl, ⟨d, rfl, _⟩, _, _, rfl, ⟨e, rfl, _⟩, _, _, rfl, ⟨f, rfl, _⟩, _, _, rfl, ⟨g, rfl⟩, _, _, rfl, ⟨i, rfl, _⟩, _, _, rfl, ⟨j, rfl, _⟩, k, _, rfl, hk, _, _, rfl, ⟨l, rfl, _⟩, _, _, rfl, ⟨m, rfl, _⟩, _, _, rfl, ⟨n, rfl, _⟩, o, _, rfl, ho, rfl⟩ := h
 obtain ⟨k', rfl, _⟩ := aFs (fun _ => aDq) (show tC (.sl (.int .i64)) k from by simpa only [tC] using hk)
 obtain ⟨o', rfl, _⟩ := aFs (fun _ => aRm) (show tC (.sl (.int .u8)) o from by simpa only [tC] using ho)
 exact ⟨⟨a, b, c, d, e, f, g, i, j, k', l, m, n, o'⟩, rfl, trivial⟩
theorem oO {s : Option Nat} {H : aB} : Call tab s eD [] H = some (.bool true, H) := dU.2 ⟨60, by kernel_rfl⟩
def aFh (c : Config) (P : Nat → List Port) (S : Nat → List Slot) (p i : Int) (f : Frame) : Bool := decide (0 ≤ p ∧ p < c.parts.length) && F6 c (P p.toNat) (S p.toNat) p i f
section
variable {c : Config} {P : Nat → List Port} {S : Nat → List Slot} {s : Option Nat} {H : aB} {p i : Int} {f : Frame}
theorem aPn (hN : NetR c P S) (hR : SlotR P S) (hS : ∀ p, (S p).length ≤ 1000) (hP : ∀ p, (P p).length ≤ 1000) (hl : f.ages.length ≤ 1000000) : Call tab s Z7 [c.v, .int .i64 p, .int .i64 i, f.v] H = some (.bool (aFh c P S p i f), H) := by
 unfold aFh
 by_cases hp : 0 ≤ p ∧ p < c.parts.length
 ·rw [decide_eq_true hp, Bool.true_and]
  obtain ⟨q, rfl⟩ : ∃ q : Nat, p = q := ⟨p.toNat, by omega⟩
  rw [Int.toNat_natCast]
  have ho := fun s H => aRc (s := s) (H := H) hN.toNet (p := q) (by omega)
  have hf := fun s H => aRb (s := s) (H := H) (p := q) (i := i) (c := c) hR (hS q) (hP q) hl
  unfold Config.v View.v jY Frame.v at *
  ((first | refine aC ?_ | skip); refine bE (cf := sD) rfl rfl rfl rfl ?_; unfold sD; dsimp only [aA, Nat.reduceAdd, Nat.zero_add])
  repeat' (first | refine aF ?_ | refine yc ?_ (ha := by first | exact ho _ _ | exact hf _ _ | assumption) | refine sG (fun _ => ?_) fun _ => ?_ | refine aG ?_ | refine sH (fun _ => ?_) fun _ => ?_ | fail)
  rfl
 ·rw [decide_eq_false hp, Bool.false_and]
  have ho := fun s H => aVm (s := s) (H := H) hN.toNet hp
  unfold Config.v View.v view0 Frame.v at *
  simp only [aL, List.length_nil] at ho
  ((first | refine aC ?_ | skip); refine bE (cf := sD) rfl rfl rfl rfl ?_; unfold sD; dsimp only [aA, Nat.reduceAdd, Nat.zero_add])
  repeat' (first | refine aF ?_ | refine yc ?_ (ha := by first | exact ho _ _ | assumption) | refine sG (fun _ => ?_) fun _ => ?_ | refine aG ?_ | refine sH (fun _ => ?_) fun _ => ?_ | fail)
  rfl
theorem aMh (hN : NetR c P S) (hR : SlotR P S) (hQ : PortR c P) (hS : ∀ p, (S p).length ≤ 1000) (hl : f.ages.length ≤ 1000000) : Call tab s gB [c.v, .int .i64 p, .int .i64 i, f.v] H = some (.bool (aFh c P S p i f), H) := by
 unfold aFh
 by_cases hp : 0 ≤ p ∧ p < c.parts.length
 ·rw [decide_eq_true hp, Bool.true_and]
  obtain ⟨q, rfl⟩ : ∃ q : Nat, p = q := ⟨p.toNat, by omega⟩
  rw [Int.toNat_natCast]
  exact aD8 hN hR hQ (hS q) (by omega) hl
 ·rw [decide_eq_false hp, Bool.false_and]
  exact aM6 hN.toNet hp
end
set_option maxHeartbeats 4000000 in
theorem airFits {us : List V} (h : aDt [.int .i64, .int .i64, .int .i64, m4] us) : Call tab none yO us [] = some (.bool true, []) := by
 obtain ⟨_, _, rfl, h1, _, _, rfl, h2, _, _, rfl, h3, _, _, rfl, h4, rfl⟩ := h
 obtain ⟨m, rfl, _⟩ := uW h1
 obtain ⟨p, rfl, _⟩ := uW h2
 obtain ⟨n, rfl, _⟩ := uW h3
 obtain ⟨cs, rfl, h4⟩ := h4
 obtain ⟨x, rfl, _⟩ := aFg h4
 clear h1 h2 h3 h4
 show Call tab none yO [.int .i64 m, .int .i64 p, .int .i64 n, x.v] [] = _
 by_cases hx : x.ages.length ≤ 20
 ·by_cases hy : x.body.length ≤ 100
  ·obtain ⟨c, P, S, hN, hS, hQ, hP, hR, hM⟩ := aMd (s := some 0) (H := [Cel.enc x]) m
   have h1 := fun s H => aPn hN hR hS hP (s := s) (H := H) (p := p) (i := n) (f := x) (by omega)
   have h2 := fun s H => aMh hN hR hQ hS (s := s) (H := H) (p := p) (i := n) (f := x) (by omega)
   generalize aFh c P S p n x = b at *
   have hM : Call tab (some 0) aR [.int .i64 m] ([] ++ [[.int .i64 x.kind, .int .i64 x.part, .int .i64 x.node, .int .i64 x.wait, .int .i64 x.mask, .int .i64 x.link, .bool x.flag, .int .i64 x.cycle, .int .i64 x.offset, .sl none x.ages.length (enL x.ages), .int .i64 x.frm, .int .i64 x.to, .int .i64 x.seq, .sl none x.body.length (enL x.body)]]) = _ := hM
   unfold Frame.v Config.v at *
   ((first | refine aC ?_ | skip); refine bE (cf := eP) rfl rfl rfl rfl ?_; unfold eP; dsimp only [aA, Nat.reduceAdd, Nat.zero_add])
   repeat' (first | refine aF ?_ | refine yc ?_ (ha := by first | exact oO | exact hM | exact h1 _ _ | exact h2 _ _ | assumption) | refine sG (fun _ => ?_) fun _ => ?_ | refine aG ?_ | refine sH (fun _ => ?_) fun _ => ?_ | fail)
   rw [beq_self_eq_true]
  ·unfold Frame.v
   ((first | refine aC ?_ | skip); refine bE (cf := eP) rfl rfl rfl rfl ?_; unfold eP; dsimp only [aA, Nat.reduceAdd, Nat.zero_add])
   repeat' (first | refine aF ?_ | refine yc ?_ (ha := by first | exact oO | assumption) | refine sG (fun _ => ?_) fun _ => ?_ | refine aG ?_ | refine sH (fun _ => ?_) fun _ => ?_ | fail)
   all_goals rfl
 ·unfold Frame.v
  ((first | refine aC ?_ | skip); refine bE (cf := eP) rfl rfl rfl rfl ?_; unfold eP; dsimp only [aA, Nat.reduceAdd, Nat.zero_add])
  repeat' (first | refine aF ?_ | refine yc ?_ (ha := by first | exact oO | assumption) | refine sG (fun _ => ?_) fun _ => ?_ | refine aG ?_ | refine sH (fun _ => ?_) fun _ => ?_ | fail)
  all_goals rfl
end Go.Abs
namespace Go.Abs
open Go.RowKit (Below)
open Go.ChangeShapes Go.WideShapes
section
variable {H : Type} {enc : TypeId × Value → H} {P : Program} {w : World}
theorem M2 : ∀ {vs : List V} {cs : List Value}, (∀ v ∈ vs, v.dis1 = v) → aT vs cs = []
 | [], _, _ => rfl
 | _ :: _, [], _ => rfl
 | v :: vs, c :: cs, h => by
   simp only [aT, M2 fun u hu => h u (List.mem_cons_of_mem _ hu), List.append_nil]
   rw [← h v (List.mem_cons_self ..), fF]
theorem aNe {held : Bool} {ty : Ty} {t : TypeId} {v : Value} {d : DataW H} {ps : List MemPlace} {r : Reach} {b : Nat} (hok : xQ P ty t = true) (hw : Value.okWide P w r b t v) (h : DataW.Trod enc P w 0 (fun _ => true) held t v d ps) (hwt : ∀ n ∈ d.weights P t, n ≤ reachBytes) :
 ∃ u : V, TyA ty u ∧ Rep (yL w) [] w u v ∧ cJ u v = [] := by
 obtain ⟨fuel, hf⟩ := h
 obtain ⟨vs, h1, h2⟩ := xR ty t fuel _ _ hok hf hwt
 have agg : ty.isAgg = true → (∃ cs, v = .agg cs) → ∃ u : V, TyA ty u ∧ Rep (yL w) [] w u v ∧ cJ u v = [] := by
  rintro ha ⟨cs, rfl⟩
  refine ⟨.agg vs, ?_, ?_, ?_⟩
  ·unfold TyA; rw [if_pos ha]; exact ⟨vs, rfl, h1⟩
  ·simp only [Rep]; exact ⟨cs, rfl, h2.1, fun x hx => (h2.2 x hx).1⟩
  ·exact M2 fun x hx => (h2.2 x hx).2
 have one : ty.isAgg = false → (∃ x, vs = [x]) → v.cells = #[v] → ∃ u : V, TyA ty u ∧ Rep (yL w) [] w u v ∧ cJ u v = [] := by
  rintro ha ⟨x, rfl⟩ hc
  have h3 := h2.1
  rw [hc] at h3
  simp only [RepL] at h3
  obtain ⟨c, r, e, h4, _⟩ := h3
  simp only [List.cons.injEq] at e
  obtain ⟨rfl, _⟩ := e
  obtain ⟨s1, s2⟩ := h2.2 x (List.mem_cons_self ..)
  refine ⟨x, ?_, h4, ?_⟩
  ·unfold TyA; rw [if_neg (by simp [ha])]; exact h1
  ·rw [fV (.inr trivial) (.inl s1), ← s2, fF]
 cases ty with
 | bool =>
   simp only [xQ] at hok
   split at hok
   ·rename_i ht
    simp only [tC] at h1
    obtain ⟨x, rfl⟩ := h1
    obtain ⟨y, rfl⟩ := okWide_bool ht hw
    exact one rfl ⟨_, rfl⟩ rfl
   ·cases hok
 | int k =>
   simp only [xQ] at hok
   split at hok
   ·rename_i j ht
    simp only [tC] at h1
    obtain ⟨x, rfl, _⟩ := h1
    obtain ⟨y, rfl⟩ := okWide_int ht hw
    exact one rfl ⟨_, rfl⟩ rfl
   ·cases hok
 | str =>
   simp only [xQ] at hok
   split at hok
   ·rename_i ht
    simp only [tC] at h1
    obtain ⟨x, rfl, _⟩ := h1
    obtain ⟨y, rfl⟩ := okWide_string ht hw
    exact one rfl ⟨_, rfl⟩ rfl
   ·cases hok
 | sl e =>
   simp only [xQ] at hok
   split at hok
   ·rename_i u ht
    simp only [tC] at h1
    obtain ⟨x, rfl, _⟩ := h1
    obtain ⟨y, l, c, rfl⟩ := okWide_slice ht hw
    exact one rfl ⟨_, rfl⟩ rfl
   ·cases hok
 | st fs =>
   simp only [xQ] at hok
   split at hok
   ·rename_i gs ht
    simp only [Value.okWide, ht] at hw
    obtain ⟨cs, rfl, _⟩ := hw
    exact agg rfl ⟨_, rfl⟩
   ·cases hok
 | arr n e =>
   simp only [xQ] at hok
   split at hok
   ·rename_i m u ht
    simp only [Value.okWide, ht] at hw
    obtain ⟨cs, rfl, _⟩ := hw
    exact agg rfl ⟨_, rfl⟩
   ·cases hok
theorem aCm {held : Bool} : ∀ {tys : List Ty} {ts : List TypeId} {vs : List Value} {ds : List (DataW H)} {ps : List MemPlace} {r : Reach} {b : Nat}, aCn P tys ts = true →
 (∀ (j : Nat) t v, ts[j]? = some t → vs[j]? = some v → Value.okWide P w r b t v) → DataW.TrodAll enc P w 0 (fun _ => true) held ts vs ds ps → (∀ n ∈ DataW.weightsEach P ts ds, n ≤ reachBytes) →
 ∃ us : List V, aDt tys us ∧ us.length = vs.length ∧ ds.length = tys.length ∧ (∀ p ∈ us.zip vs, Rep (yL w) [] w p.1 p.2) ∧ aH (us.zip vs) = []
 | [], [], [], [], _, _, _, _, _, _, _ => ⟨[], by simp only [aDt], rfl, rfl, by simp, rfl⟩
 | [], [], [], _ :: _, _, _, _, _, _, h, _ => h.elim
 | [], [], _ :: _, _, _, _, _, _, _, h, _ => by cases ‹List (DataW H)› <;> exact h.elim
 | [], _ :: _, _, _, _, _, _, hok, _, _, _ => by simp [aCn] at hok
 | _ :: _, [], _, _, _, _, _, hok, _, _, _ => by simp [aCn] at hok
 | ty :: tys, t :: ts, vs, ds, ps, r, b, hok, hw, h, hwt => by
   simp only [aCn, Bool.and_eq_true] at hok
   obtain ⟨v, vs', d, ds', p, q, rfl, rfl, rfl, h1, h2⟩ := trodAll_cons h
   rw [DataW.weightsEach] at hwt
   obtain ⟨u, a1, a2, a3⟩ := aNe hok.1 (hw 0 t v rfl rfl) h1 fun n hn => hwt n (List.mem_append.2 (.inl hn))
   obtain ⟨us, b1, b2, b3, b4, b5⟩ := aCm hok.2 (fun j t' v' ht hv => hw (j + 1) t' v' (by simpa using ht) (by simpa using hv)) h2 fun n hn => hwt n (List.mem_append.2 (.inr hn))
   refine ⟨u :: us, by simp only [aDt]; exact ⟨u, us, rfl, a1, b1⟩, by simp [b2], by simp [b3], ?_, ?_⟩
   ·intro p hp
    simp only [List.zip_cons_cons] at hp
    rcases List.mem_cons.1 hp with rfl | hp
    ·exact a2
    ·exact b4 p hp
   ·simp only [List.zip_cons_cons, aH, a3, b5, List.append_nil]
theorem aNf {us : List V} {cs : List Value} (h : ∀ p ∈ us.zip cs, Rep (yL w) [] w p.1 p.2) (ht : aH (us.zip cs) = []) : St none w.heap.size [] (yL w) [] (us.zip cs) [] w := by
 refine ⟨h, rfl, fun i cs b hi => by simp at hi, fun x => by rw [ht]; simp [aS, aY, ind], fun t hm => ?_, fun b o hx => ⟨by simp, hx⟩, fun b hb => ?_, fun l hl => (by cases hl), fun i j b cs ds _ hb => by simp at hb⟩
 ·rw [ht] at hm; simp [aY] at hm
 ·simp at hb
theorem o0 (hl : laidOutB P = true) {W W' : World} (hb : Below W.heap.size W W') : ∀ {ts : List TypeId} {vs : List Value} {ds : List (DataW H)} {ps : List MemPlace}, (∀ t ∈ ts, P.readableRec t = true ∧ t < P.types.size) →
 DataW.TrodAll enc P W 0 (fun _ => true) true ts vs ds ps → DataW.TrodAll enc P W' 0 (fun b => decide (b < W.heap.size)) true ts vs ds ps
 | [], [], [], _, _, h => h
 | [], [], _ :: _, _, _, h => h.elim
 | [], _ :: _, ds, _, _, h => by cases ds <;> exact h.elim
 | t :: ts, vs, ds, ps, hr, h => by
   obtain ⟨v, vs', d, ds', p, q, rfl, rfl, rfl, h1, h2⟩ := trodAll_cons h
   have ht := hr t (List.mem_cons_self ..)
   refine ⟨p, q, Go.RowKit.Below.trod hl ht.1 ht.2 h1 hb ?_, o0 hl hb (fun u hu => hr u (List.mem_cons_of_mem _ hu)) h2, rfl⟩
   obtain ⟨m, hm⟩ := h1
   exact DataW.trod_lt m _ _ _ hm
def aNg (P : Program) (ts : List TypeId) : Bool := ts.all fun t => P.readableRec t && decide (t < P.types.size)
def aIw (P : Program) (f : Func) : Bool := match f.resultTypes.toList with | [t] => (match P.underlying t with | some .bool => true | _ => false) | _ => false
theorem yK : ∀ {ts us : List TypeId} {l k : List (DataW H)} {n : Nat}, n ∈ DataW.weightsEach P ts l → n ∈ DataW.weightsEach P (ts ++ us) (l ++ k)
 | [], _, _, _, _, h => by simp [DataW.weightsEach] at h
 | _ :: _, _, [], _, _, h => by simp [DataW.weightsEach] at h
 | t :: ts, us, c :: l, k, n, h => by
   rw [DataW.weightsEach, List.mem_append] at h
   rw [List.cons_append, List.cons_append, DataW.weightsEach, List.mem_append]
   exact h.imp id yK
theorem rL {T : Tab} {pure : FuncId → Bool} (hTab : TabOK P T pure) (hlaid : laidOutB P = true) {f : FuncId} {fn : Func} {s : ChangeSpec} {tys : List Ty} (htys : aCn P tys fn.params.toList = true) (hread : aNg P fn.params.toList = true) (hres : aIw P fn = true)
 (hvars : s.vars = []) (hspec : ∀ ds : List (DataW H), ds.length = tys.length → s.fn H ds = { results := [.lit (.bool true)], args := ds })
 (hcall : ∀ us, aDt tys us → Call T none f us [] = some (.bool true, []))
 (W : World) (base : Nat) (args : Array Value) (ds gs : List (DataW H)) (before : List MemPlace)
 (hval : ∀ (j : Nat) t v, fn.params[j]? = some t → args[j]? = some v → Value.okWide P W .any base t v) (hW : DataW.Whole enc P fn.params.toList s.vars false W args.toList ds gs before) (hwt : (DataW.weightsEach P (fn.params.toList ++ s.plain.varTypes P) (ds ++ gs)).all (· ≤ reachBytes) = true) :
 Calls P f args W fun e W' => ∃ v, e = .returned v ∧ s.post enc P fn false true false false W args v W' := by
 have hW' := hW
 obtain ⟨p, q, hA, hV, rfl, _, _⟩ := hW
 rw [hvars] at hV
 obtain ⟨rfl, rfl⟩ := trodVars_none hV
 obtain ⟨us, u1, u2, u3, u4, u5⟩ := aCm (r := .any) (b := base) htys (fun j t v ht hv => hval j t v (by simpa using ht) (by simpa using hv)) hA fun n hn => of_decide_eq_true (List.all_eq_true.1 hwt n (yK hn))
 have hc := aQ9 (cs := args.toList) hTab (hcall us u1) u2 (aNf u4 u5) (Nat.le_refl _)
 refine (show Calls P f args W _ from hc).mono fun e W' he => ?_
 cases e with
 | returned c =>
   obtain ⟨S', bl', g, x⟩ := he
   have hb := (g.rep _ (List.mem_cons_self ..)).bool_inv
   simp only at hb
   subst hb
   refine ⟨_, rfl, ds, [], p ++ [], [], p, [], hW', ?_, ?_, ?_, Below.frame x.below _, fun h => by cases h⟩
   ·rw [List.append_nil, hspec ds u3]
    unfold aIw at hres
    split at hres
    ·rename_i t ht
     split at hres
     ·rename_i hu
      have hsz : fn.resultTypes.size = 1 := by rw [← Array.length_toList, ht]; rfl
      rw [ht, hsz]
      exact trodAll_mk1 (Go.RowKit.shut_bool hu _)
     ·cases hres
    ·cases hres
   ·rw [List.append_nil, hspec ds u3]
    refine o0 hlaid x.below (fun t ht => ?_) hA
    unfold aNg at hread
    have := List.all_eq_true.1 hread t ht
    simpa using this
   ·rw [List.append_nil, hspec ds u3, hvars]; rfl
 | _ => exact he.elim
end
end Go.Abs
namespace Go.Abs
def hst (q : List Heard × Nat) : Option (Option Heard) → List Heard × Nat
 | none => q
 | some none => (q.1, q.2 + 1)
 | some (some h) => (q.1 ++ [h], q.2)
def dJ (h : Nat → Option (Option Heard)) : Nat → List Heard × Nat
 | 0 => ([], 0)
 | i + 1 => hst (dJ h i) (h i)
section
variable {h h' : Nat → Option (Option Heard)} {n : Nat}
theorem zB : ∀ n, (∀ i, i < n → h i = h' i) → dJ h n = dJ h' n
 | 0, _ => rfl
 | n + 1, e => by rw [dJ, dJ, zB n fun i hi => e i (by omega), e n (by omega)]
theorem l6 : ∀ n, (dJ h n).1.length + (dJ h n).2 ≤ n
 | 0 => Nat.le_refl _
 | n + 1 => by
   have := l6 n
   rw [dJ]
   cases h n with
   | none => show (dJ h n).1.length + (dJ h n).2 ≤ n + 1; omega
   | some x => cases x with
     | none => show (dJ h n).1.length + ((dJ h n).2 + 1) ≤ n + 1; omega
     | some y => show ((dJ h n).1 ++ [y]).length + (dJ h n).2 ≤ n + 1; rw [List.length_append, List.length_singleton]; omega
theorem S1 {m : Nat} : ∀ n, m ≤ n → (∀ i, m ≤ i → i < n → h i = none) → dJ h n = dJ h m
 | 0, hm, _ => by rw [show m = 0 by omega]
 | n + 1, hm, e => by
   rcases Nat.lt_or_ge n m with k | k
   ·rw [show m = n + 1 by omega]
   ·rw [dJ, e n k (by omega), ← S1 n k fun i h1 h2 => e i h1 (by omega)]; rfl
theorem l7 (hs : ∀ i x, h i = some (some x) → x.slot = i) : ∀ n, (∀ x ∈ (dJ h n).1, ∃ i, i < n ∧ x.slot = i ∧ h i = some (some x)) ∧ (dJ h n).1.Pairwise fun a b => a.slot < b.slot
 | 0 => ⟨fun x hx => (List.not_mem_nil hx).elim, List.Pairwise.nil⟩
 | n + 1 => by
   obtain ⟨h1, h2⟩ := l7 hs n
   have h1' : ∀ x ∈ (dJ h n).1, ∃ i, i < n + 1 ∧ x.slot = i ∧ h i = some (some x) := fun x hx => by
    obtain ⟨i, a, b⟩ := h1 x hx; exact ⟨i, by omega, b⟩
   rw [dJ]
   cases hn : h n with
   | none => exact ⟨h1', h2⟩
   | some x => cases x with
     | none => exact ⟨h1', h2⟩
     | some y =>
       refine ⟨fun x hx => ?_, List.pairwise_append.2 ⟨h2, List.pairwise_singleton .., fun a ha b hb => ?_⟩⟩
       ·rcases List.mem_append.1 hx with hx | hx
        ·exact h1' x hx
        ·cases List.mem_singleton.1 hx; exact ⟨n, by omega, hs n y hn, hn⟩
       ·obtain ⟨i, k1, k2, _⟩ := h1 a ha
        rw [k2, List.mem_singleton.1 hb, hs n y hn]; omega
end
theorem dT {α β : Type} {a : Except Int α} {f : α → Except Int β} {r : β} (h : (a >>= f) = .ok r) : ∃ x, a = .ok x ∧ f x = .ok r := by
 cases a with
 | error k => cases h
 | ok x => exact ⟨x, rfl, h⟩
theorem aHy : ∀ {n : Nat} {l : List UInt8} {r : List Int × List UInt8}, o6 n l = .ok r → r.1.length = n
 | 0, l, r, h => by cases h; rfl
 | n + 1, l, r, h => by
   obtain ⟨x, _, h⟩ := dT (show (bR 1 0 201 l >>= _) = _ from h)
   obtain ⟨y, hy, h⟩ := dT (show (o6 n x.2 >>= _) = _ from h)
   have := aHy hy
   cases h; simp [this]
theorem aT8 {w : Nat} {lo hi : Int} {l : List UInt8} {x : Int × List UInt8} (h : bR w lo hi l = .ok x) : lo ≤ x.1 ∧ x.1 ≤ hi := by
 unfold bR at h; split at h
 ·cases h
 ·split at h
  ·rename_i k; cases h; exact k
  ·cases h
theorem aHz {l : List UInt8} {r : List Int × List UInt8} (h : P4 l = .ok r) : r.1.length ≤ 6 := by
 obtain ⟨x, hx, h⟩ := dT (show (bR 1 1 6 l >>= _) = _ from h)
 have := aHy (show o6 x.1.toNat x.2 = _ from h); have := aT8 hx; omega
theorem aP5 {k p n : Int} {l : List UInt8} {r : Frame × List UInt8} (h : rdK k p n l = .ok r) : r.1.ages.length ≤ 6 := by
 unfold rdK at h; split at h
 ·obtain ⟨x, hx, h⟩ := dT h; cases h; exact Nat.zero_le _
 ·split at h
  ·obtain ⟨x, _, h⟩ := dT h; obtain ⟨y, _, h⟩ := dT h; obtain ⟨z, hz, h⟩ := dT h; cases h; exact aHz hz
  ·split at h
   ·obtain ⟨x, _, h⟩ := dT h; obtain ⟨y, _, h⟩ := dT h; obtain ⟨z, _, h⟩ := dT h; obtain ⟨w, _, h⟩ := dT h; cases h; exact Nat.zero_le _
   ·split at h
    ·obtain ⟨x, _, h⟩ := dT h; obtain ⟨z, hz, h⟩ := dT h; cases h; exact aHz hz
    ·obtain ⟨x, _, h⟩ := dT h; obtain ⟨y, _, h⟩ := dT h; obtain ⟨z, _, h⟩ := dT h; obtain ⟨w, _, h⟩ := dT h; obtain ⟨v, _, h⟩ := dT h; cases h; exact Nat.zero_le _
theorem aP6 {l : List UInt8} {f : Frame} (h : rdF l = .ok f) : f.ages.length ≤ 6 := by
 obtain ⟨x, _, h⟩ := dT (show (bR 1 1 5 l >>= _) = _ from h)
 obtain ⟨y, _, h⟩ := dT h
 obtain ⟨z, _, h⟩ := dT h
 obtain ⟨⟨w, m⟩, hw, h⟩ := dT h
 dsimp only at h
 by_cases e : m.isEmpty = true
 ·rw [if_pos e] at h; cases h; exact aP5 hw
 ·rw [if_neg e] at h; cases h
theorem S2 (b : List UInt8) : (yU b).ages.length ≤ 6 := by
 unfold yU
 split
 ·rename_i f h
  unfold dec at h
  split at h
  ·cases h
  ·split at h
   ·split at h
    ·exact aP6 h
    ·cases h
   ·cases h
 ·exact Nat.zero_le _
def lX (c : Config) (l : List Port) (m : List Slot) (p : Int) (g : Guard) (ppm : Int) (says : List Say) (lost : List Int) (i : Nat) : Option (Option Heard) :=
 match says.find? (fun y => y.slot == (i : Int)) with
 | none => none
 | some y => if inB lost i = true then none else if X9 g (m.getD i default).off ppm c.window y.tim = true then
  (if C0 y.bytes = 0 ∧ F6 c l m p i (yU y.bytes) = true then some (some ⟨i, yU y.bytes, y.tim⟩) else some none)
  else none
theorem tL {c : Config} {l : List Port} {m : List Slot} {p : Int} {g : Guard} {ppm : Int} {says : List Say} {lost : List Int} {i : Nat} {x : Heard} (h : lX c l m p g ppm says lost i = some (some x)) : x.slot = i ∧ inB lost i = false ∧ F6 c l m p i x.frame = true := by
 unfold lX at h
 split at h
 ·cases h
 ·split at h
  ·cases h
  ·rename_i hl
   split at h
   ·split at h
    ·rename_i hf; cases h; exact ⟨rfl, by simpa using hl, hf.2⟩
    ·cases h
   ·cases h
end Go.Abs
namespace Go.Abs
open Go.Proofs.YtpcnjabfiahhhaaGreatDoor
theorem aTj {s : Option Nat} {H : aB} {t : TypeId} {v : V} (h : v.noVia = true := by rfl) : apply s (.mif t) [v] H = some (.ifc t v, H) := by
 show (if v.noVia = true then some (V.ifc t v) else none).map _ = _
 rw [if_pos h]; rfl
theorem aXf {s : Option Nat} {H : aB} : apply s (.ieq false) [.nili, .nili] H = some (.bool true, H) := rfl
theorem aXg {s : Option Nat} {H : aB} {t : TypeId} {v : V} : apply s (.ieq false) [.ifc t v, .nili] H = some (.bool false, H) := rfl
theorem aXh {s : Option Nat} {H : aB} : apply s (.ieq true) [.nili, .nili] H = some (.bool false, H) := rfl
theorem aXi {s : Option Nat} {H : aB} {t : TypeId} {v : V} : apply s (.ieq true) [.ifc t v, .nili] H = some (.bool true, H) := rfl
theorem aDb {i o : Nat} {vs : List V} : V.rbL 0 (.ptr i o :: vs) = false := by simp [V.rbL, V.rb]
attribute [local irreducible] enL R RR dF cZ lV dE dG mP apply dB eI aX aZ cO aW fB aP aN cK bN gL cA V.rb V.rbL
def wC (B : List UInt8) (a : Nat) : List V := [.sl (some 1) B.length (enL B), .int .i64 a, .bool false]
theorem aIh {s : Option Nat} {H : aB} {l : List UInt8} (h1 : 1 ≤ l.length) (hl : l.length ≤ 7) : Call tab s vJ [.sl none l.length (enL l)] H = some (.int .i64 (cW l), H) := by
 have hr := fun s H => aJ7 (s := s) (H := H) (w := (l.length : Int))
 rw [decide_eq_true (show 1 ≤ (l.length : Int) ∧ (l.length : Int) ≤ 7 by omega)] at hr
 ((first | refine aC ?_ | skip); refine bE (cf := vN) rfl rfl rfl rfl ?_; unfold vN; dsimp only [aA, Nat.reduceAdd, Nat.zero_add])
 repeat' (first | refine aF ?_ | refine yc ?_ (ha := by first | exact hr _ _ | assumption) | refine sG (fun _ => ?_) fun _ => ?_ | refine aG ?_ | refine sH (fun _ => ?_) fun _ => ?_ | fail)
 refine oK l.length (fun i (_ : Unit) => [(3, .int .i64 (cW (l.take i))), (12, .int .i64 i)]) (fun _ _ => _) (fun _ _ => True) ?_ ?_ () trivial
 ·intro i _ hi _ ih
  obtain ⟨x, hx⟩ := oZ hi
  have hb := m5 (l := l.take i) (k := 6) (by rw [List.length_take]; omega)
  have hx2 := x.toNat_lt
  rw [aCa hx] at ih
  have h1 : IntKind.i64.wrap (cW (l.take i) * 256) = cW (l.take i) * 256 := IntWalk.i64_in _ (by omega)
  have h2 : IntKind.i64.wrap (x.toNat : Int) = x.toNat := IntWalk.i64_in _ (by omega)
  have h3 := aYd (x := cW (l.take i)) (c := x.toNat) (by omega) (by omega) (by omega) (by omega)
  generalize cW (l.take i) = q at *
  have hil : (i : Int) < (l.length : Int) := by omega
  have hw : IntKind.i64.wrap ((i : Int) + 1) = ((i + 1 : Nat) : Int) := IntWalk.i64_in _ (by omega)
  refine aJ (by dsimp only [eT, lk, Nat.reduceBEq, cond_true, cond_false, Option.getD_some, Option.getD_none]; first | done | exact rfl) ?_; refine aE ?_
  unfold rB
  repeat' (first | refine aF ?_ | refine yc ?_ | refine sG (fun _ => ?_) fun _ => ?_ | refine aG ?_ | refine sH (fun _ => ?_) fun _ => ?_ | fail)
  refine cV ?_
  rw [h3]
  exact ih () trivial
 ·intro _ _
  refine aJ (by dsimp only [eT, lk, Nat.reduceBEq, cond_true, cond_false, Option.getD_some, Option.getD_none]; first | done | exact rfl) ?_; refine aE ?_
  unfold rB
  repeat' (first | refine aF ?_ | refine yc ?_ | refine sG (fun _ => ?_) fun _ => ?_ | refine aG ?_ | refine sH (fun _ => ?_) fun _ => ?_ | fail)
  rw [List.take_length]
theorem aMf {l : List UInt8} (hl : l.length = 6) : mD l = if 140737488355328 ≤ cW l then cW l - 281474976710656 else cW l := by
 unfold mD; rw [hl]; rfl
theorem aPl {s : Option Nat} {H : aB} {l : List UInt8} (hl : l.length = 6) : Call tab s r8 [.sl none l.length (enL l)] H = some (.int .i64 (mD l), H) := by
 have hb := m5 (l := l) (k := 6) (by omega)
 have hn := fun s H => aIh (s := s) (H := H) (l := l) (by omega) (by omega)
 have h0 : (0 : Int) < (l.length : Int) := by omega
 have h7 : (l.length : Int) ≤ 7 := by omega
 have hw1 : IntKind.i64.wrap (8 * (l.length : Int)) = 48 := by rw [hl]; rfl
 have hw2 : IntKind.i64.wrap ((48 : Int) - 1) = 47 := rfl
 have hw3 : IntKind.i64.wrap (1 * 2 ^ min (Int.toNat 47) IntKind.i64.bits) = 140737488355328 := rfl
 have hw4 : IntKind.i64.wrap (cW l - 281474976710656) = cW l - 281474976710656 := IntWalk.i64_in _ (by omega)
 rw [aMf hl]
 by_cases h : 140737488355328 ≤ cW l
 ·rw [if_pos h]
  ((first | refine aC ?_ | skip); refine bE (cf := mX) rfl rfl rfl rfl ?_; unfold mX; dsimp only [aA, Nat.reduceAdd, Nat.zero_add])
  repeat' (first | refine aF ?_ | refine yc ?_ (ha := by first | exact hn _ _ | assumption) | refine sG (fun _ => ?_) fun _ => ?_ | refine aG ?_ | refine sH (fun _ => ?_) fun _ => ?_ | fail)
  rw [show IntKind.i64.wrap (1 * 2 ^ min (Int.toNat 48) IntKind.i64.bits) = 281474976710656 from rfl, hw4]
 ·rw [if_neg h]
  ((first | refine aC ?_ | skip); refine bE (cf := mX) rfl rfl rfl rfl ?_; unfold mX; dsimp only [aA, Nat.reduceAdd, Nat.zero_add])
  repeat' (first | refine aF ?_ | refine yc ?_ (ha := by first | exact hn _ _ | assumption) | refine sG (fun _ => ?_) fun _ => ?_ | refine aG ?_ | refine sH (fun _ => ?_) fun _ => ?_ | fail)
  rfl
section
variable {H : aB} {lm j a n : Nat} {B : List UInt8} {s : Option Nat}
theorem aIi (hid : H[j]? = some (wC B a)) : Call tab s iA [.ptr j 0] H = some (.int .i64 a, H) := by
 unfold wC at *
 ((first | refine aC ?_ | skip); refine z9 (cf := pQ) rfl rfl rfl rfl (by first | exact aDb | exact rb_ptr0 | exact rb_ar0) ?_; unfold pQ; dsimp only [aA, Nat.reduceAdd, Nat.zero_add])
 repeat' (first | refine aF ?_ | refine yc ?_ | refine sG (fun _ => ?_) fun _ => ?_ | refine aG ?_ | refine sH (fun _ => ?_) fun _ => ?_ | fail)
 rfl
theorem aDc (hid : H[j]? = some (wC B a)) (hB : B.length ≤ 1000000) (ha : a ≤ B.length) : Call tab s nN [.ptr j 0] H = some (.int .i64 ((B.length : Int) - a), H) := by
 have hw1 : IntKind.i64.wrap ((B.length : Int) - a) = (B.length : Int) - a := IntWalk.i64_in _ (by omega)
 unfold wC at *
 ((first | refine aC ?_ | skip); refine z9 (cf := nT) rfl rfl rfl rfl (by first | exact aDb | exact rb_ptr0 | exact rb_ar0) ?_; unfold nT; dsimp only [aA, Nat.reduceAdd, Nat.zero_add])
 repeat' (first | refine aF ?_ | refine yc ?_ | refine sG (fun _ => ?_) fun _ => ?_ | refine aG ?_ | refine sH (fun _ => ?_) fun _ => ?_ | fail)
 rfl
theorem aIj (hid : H[j]? = some (wC B a)) (hlm : lm ≤ j) (hn : a + n ≤ B.length) (hB : B.length ≤ 1000000) :
 Call tab (some lm) nQ [.ptr j 0, .int .i64 (n : Int)] H = some (.sl (some 1) ((B.drop a).take n).length (enL ((B.drop a).take n)), H.set j (wC B (a + n))) := by
 have hw1 : IntKind.i64.wrap ((B.length : Int) - a) = (B.length : Int) - a := IntWalk.i64_in _ (by omega)
 have hw2 : IntKind.i64.wrap ((a : Int) + n) = ((a + n : Nat) : Int) := IntWalk.i64_in _ (by omega)
 have hw3 : IntKind.i64.wrap (((a + n : Nat) : Int) - n) = (a : Int) := by rw [IntWalk.i64_in _ (by omega)]; omega
 have hl : ((B.drop a).take n).length ≤ 140737488355328 := by rw [List.length_take, List.length_drop]; omega
 have hq : ((a + n : Nat) : Int).toNat - (a : Int).toNat = n := by omega
 have hlen : j < H.length := (List.getElem?_eq_some_iff.1 hid).1
 unfold wC at *
 ((first | refine aC ?_ | skip); refine eE (cf := nI) rfl rfl rfl (by decide) ?_; unfold nI; dsimp only [aA, Nat.reduceAdd, Nat.zero_add])
 repeat' (first | refine aF ?_ | refine yc ?_ | refine sG (fun _ => ?_) fun _ => ?_ | refine aG ?_ | refine sH (fun _ => ?_) fun _ => ?_ | fail)
 rfl
theorem aFf (hid : H[j]? = some (wC B a)) (hlm : lm ≤ j) (hn : a + n ≤ B.length) (hB : B.length ≤ 1000000) (h1 : 1 ≤ n ∧ n ≤ 7) :
 Call tab (some lm) mF [.ptr j 0, .int .i64 (n : Int)] H = some (.sl (some 1) ((B.drop a).take n).length (enL ((B.drop a).take n)), H.set j (wC B (a + n))) := by
 have ht := aIj hid hlm hn hB
 have hr := fun s H => aJ7 (s := s) (H := H) (w := (n : Int))
 rw [decide_eq_true (show 1 ≤ (n : Int) ∧ (n : Int) ≤ 7 by omega)] at hr
 generalize (B.drop a).take n = l at *
 ((first | refine aC ?_ | skip); refine eE (cf := mB) rfl rfl rfl (by decide) ?_; unfold mB; dsimp only [aA, Nat.reduceAdd, Nat.zero_add])
 repeat' (first | refine aF ?_ | refine yc ?_ (ha := by first | exact ht | exact hr _ _ | assumption) | refine sG (fun _ => ?_) fun _ => ?_ | refine aG ?_ | refine sH (fun _ => ?_) fun _ => ?_ | fail)
 rfl
theorem aMg (hid : H[j]? = some (wC B a)) (hlm : lm ≤ j) (hn : a + n ≤ B.length) (hB : B.length ≤ 1000000) (h1 : 1 ≤ n ∧ n ≤ 7) :
 Call tab (some lm) lF [.ptr j 0, .int .i64 (n : Int)] H = some (.int .i64 (cW ((B.drop a).take n)), H.set j (wC B (a + n))) := by
 have ht := aFf hid hlm hn hB h1
 have hl : ((B.drop a).take n).length = n := by rw [List.length_take, List.length_drop]; omega
 generalize (B.drop a).take n = l at *
 have hq := fun s H => aIh (s := s) (H := H) (l := l) (by omega) (by omega)
 ((first | refine aC ?_ | skip); refine eE (cf := lM) rfl rfl rfl (by decide) ?_; unfold lM; dsimp only [aA, Nat.reduceAdd, Nat.zero_add])
 repeat' (first | refine aF ?_ | refine yc ?_ (ha := by first | exact ht | exact hq _ _ | assumption) | refine sG (fun _ => ?_) fun _ => ?_ | refine aG ?_ | refine sH (fun _ => ?_) fun _ => ?_ | fail)
 rfl
theorem aTk (hid : H[j]? = some (wC B a)) (hlm : lm ≤ j) (hn : a + 6 ≤ B.length) (hB : B.length ≤ 1000000) :
 Call tab (some lm) qQ [.ptr j 0, .int .i64 6] H = some (.int .i64 (mD ((B.drop a).take 6)), H.set j (wC B (a + 6))) := by
 have ht := aFf hid hlm hn hB (by decide)
 have hl : ((B.drop a).take 6).length = 6 := by rw [List.length_take, List.length_drop]; omega
 generalize (B.drop a).take 6 = l at *
 have hq := fun s H => aPl (s := s) (H := H) hl
 ((first | refine aC ?_ | skip); refine eE (cf := kY) rfl rfl rfl (by decide) ?_; unfold kY; dsimp only [aA, Nat.reduceAdd, Nat.zero_add])
 repeat' (first | refine aF ?_ | refine yc ?_ (ha := by first | exact ht | exact hq _ _ | assumption) | refine sG (fun _ => ?_) fun _ => ?_ | refine aG ?_ | refine sH (fun _ => ?_) fun _ => ?_ | fail)
 rfl
end
end Go.Abs
namespace Go.Abs
open Go.Proofs.YtpcnjabfiahhhaaGreatDoor
attribute [local irreducible] enL R RR dF cZ lV dE dG mP apply dB eI aX aZ cO aW fB aP aN cK bN gL cA V.rb V.rbL
def P8 : Option Nat → V
 | none => .nili
 | some f => .ifc 243 (.ptr f 0)
def rC (j : Nat) (o : Option Nat) : List V := [.ptr j 0, P8 o]
def fC (t k : Int) : List V := [.int .i64 t, .ifc 244 (.int .i64 k)]
structure PS (H : aB) (i j : Nat) (B : List UInt8) (r : vR) (a : Nat) (o : Option Nat) : Prop where
 ri : H[i]? = some (rC j o)
 wj : H[j]? = some (wC B a)
 hi : a ≤ B.length
 ne : i ≠ j
 is : (o = none ∧ r = .ok (B.drop a)) ∨ ∃ f k t, o = some f ∧ r = .error k ∧ H[f]? = some (fC t k) ∧ (k = 2 ∨ k = 6) ∧ f ≠ i ∧ f ≠ j
structure Alt (H H' : aB) (i j : Nat) (o o' : Option Nat) : Prop where
 len : H.length ≤ H'.length
 same : ∀ m, m < H.length → m ≠ i → m ≠ j → H'[m]? = H[m]?
 non : o' = none → H'.length = H.length
 new : ∀ f, o = none → o' = some f → H.length ≤ f
 stay : ∀ f, o = some f → H' = H ∧ o' = o
theorem Alt.refl {H : aB} {i j : Nat} {o : Option Nat} : Alt H H i j o o := ⟨Nat.le_refl _, fun _ _ _ _ => rfl, fun _ => rfl, fun f h1 h2 => (by rw [h1] at h2; cases h2), fun _ _ => ⟨rfl, rfl⟩⟩
section
variable {H : aB} {lm i j a n : Nat} {B : List UInt8} {o : Option Nat} {r : vR}
theorem aEh {t k : Int} (hi : H[i]? = some (rC j none)) (hlm : lm ≤ i) :
 Call tab (some lm) eS [.ptr i 0, .int .i64 t, .int .i64 k] H = some (.tup [], (H ++ [fC t k]).set i (rC j (some H.length))) := by
 have hlen : i < H.length := (List.getElem?_eq_some_iff.1 hi).1
 unfold rC fC P8 at *
 ((first | refine aC ?_ | skip); refine eE (cf := mI) rfl rfl rfl (by decide) ?_; unfold mI; dsimp only [aA, Nat.reduceAdd, Nat.zero_add])
 repeat' (first | refine aF ?_ | refine yc ?_ | refine sG (fun _ => ?_) fun _ => ?_ | refine aG ?_ | refine sH (fun _ => ?_) fun _ => ?_ | fail)
 rw [List.set_append_left _ _ hlen]
theorem K4 {f : Nat} {w : Int} (hi : H[i]? = some (rC j (some f))) (hlm : lm ≤ i) :
 Call tab (some lm) cX [.ptr i 0, .int .i64 w] H = some (.bool false, H) := by
 unfold rC P8 at *
 ((first | refine aC ?_ | skip); refine eE (cf := cE) rfl rfl rfl (by decide) ?_; unfold cE; dsimp only [aA, Nat.reduceAdd, Nat.zero_add])
 repeat' (first | refine aF ?_ | refine yc ?_ | refine sG (fun _ => ?_) fun _ => ?_ | refine aG ?_ | refine sH (fun _ => ?_) fun _ => ?_ | fail)
 rfl
theorem K5 {w : Int} (hi : H[i]? = some (rC j none)) (hj : H[j]? = some (wC B a)) (hlm : lm ≤ i) (hB : B.length ≤ 1000000) (ha : a ≤ B.length) (hw : (B.length : Int) - a < w) :
 Call tab (some lm) cX [.ptr i 0, .int .i64 w] H = some (.bool false, (H ++ [fC a 2]).set i (rC j (some H.length))) := by
 have hlen : i < H.length := (List.getElem?_eq_some_iff.1 hi).1
 have hf := aEh (t := (a : Int)) (k := 2) hi hlm
 have hl := fun s => aDc (s := s) hj hB ha
 have ht := fun s => aIi (s := s) hj
 have hg : ((H ++ [fC a 2]).set i (rC j (some H.length)))[i]? = some (rC j (some H.length)) := by rw [List.getElem?_set_self (by simp; omega)]
 generalize (H ++ [fC a 2]).set i (rC j (some H.length)) = G at *
 generalize H.length = m at *
 unfold rC P8 at *
 ((first | refine aC ?_ | skip); refine eE (cf := cE) rfl rfl rfl (by decide) ?_; unfold cE; dsimp only [aA, Nat.reduceAdd, Nat.zero_add])
 repeat' (first | refine aF ?_ | refine yc ?_ (ha := by first | exact hl _ | exact ht _ | exact hf | assumption) | refine sG (fun _ => ?_) fun _ => ?_ | refine aG ?_ | refine sH (fun _ => ?_) fun _ => ?_ | fail)
 rfl
theorem K6 {w : Int} (hi : H[i]? = some (rC j none)) (hj : H[j]? = some (wC B a)) (hlm : lm ≤ i) (hB : B.length ≤ 1000000) (ha : a ≤ B.length) (hw : ¬ (B.length : Int) - a < w) :
 Call tab (some lm) cX [.ptr i 0, .int .i64 w] H = some (.bool true, H) := by
 have hl := fun s => aDc (s := s) hj hB ha
 unfold rC P8 at *
 ((first | refine aC ?_ | skip); refine eE (cf := cE) rfl rfl rfl (by decide) ?_; unfold cE; dsimp only [aA, Nat.reduceAdd, Nat.zero_add])
 repeat' (first | refine aF ?_ | refine yc ?_ (ha := by first | exact hl _ | assumption) | refine sG (fun _ => ?_) fun _ => ?_ | refine aG ?_ | refine sH (fun _ => ?_) fun _ => ?_ | fail)
 rfl
theorem PS.failed {k t : Int} (h : PS H i j B (.ok (B.drop a)) a none) (hk : k = 2 ∨ k = 6) : PS ((H ++ [fC t k]).set i (rC j (some H.length))) i j B (.error k) a (some H.length) ∧ Alt H ((H ++ [fC t k]).set i (rC j (some H.length))) i j none (some H.length) := by
 have hli : i < H.length := (List.getElem?_eq_some_iff.1 h.ri).1
 have hlj : j < H.length := (List.getElem?_eq_some_iff.1 h.wj).1
 refine ⟨⟨?_, ?_, h.hi, h.ne, .inr ⟨H.length, k, t, rfl, rfl, ?_, hk, by omega, by omega⟩⟩, ⟨?_, ?_, fun h => (by cases h), fun f _ h => (by cases h; exact Nat.le_refl _), fun f h => (by cases h)⟩⟩
 ·rw [List.getElem?_set_self (by simp; omega)]
 ·rw [List.getElem?_set_ne h.ne, List.getElem?_append_left hlj]; exact h.wj
 ·rw [List.getElem?_set_ne (by omega), List.getElem?_append_right (Nat.le_refl _)]; simp
 ·simp
 ·intro m hm h1 h2
  rw [List.getElem?_set_ne (by omega), List.getElem?_append_left hm]
theorem PS.read {b : Nat} (h : PS H i j B (.ok (B.drop a)) a none) (hb : b ≤ B.length) : PS (H.set j (wC B b)) i j B (.ok (B.drop b)) b none ∧ Alt H (H.set j (wC B b)) i j none none := by
 have hlj : j < H.length := (List.getElem?_eq_some_iff.1 h.wj).1
 have hne := h.ne
 refine ⟨⟨?_, ?_, hb, h.ne, .inl ⟨rfl, rfl⟩⟩, ⟨by simp, ?_, fun _ => by simp, fun f _ h => (by cases h), fun f h => (by cases h)⟩⟩
 ·rw [List.getElem?_set_ne (by omega)]; exact h.ri
 ·rw [List.getElem?_set_self hlj]
 ·intro m hm h1 h2
  rw [List.getElem?_set_ne (by omega)]
theorem Alt.trans0 {H1 H2 : aB} {o1 : Option Nat} (h1 : Alt H H1 i j none none) (h2 : Alt H1 H2 i j none o1) : Alt H H2 i j none o1 :=
 ⟨by have := h1.len; have := h2.len; omega, fun m hm a b => by rw [h2.same m (by have := h1.len; omega) a b, h1.same m hm a b], fun h => by rw [h2.non h, h1.non rfl], fun f _ h => by have := h2.new f rfl h; have := h1.non rfl; omega, fun f h => by cases h⟩
set_option maxHeartbeats 1000000 in
theorem aJ6 {lo hi : Int} {w : Nat} (h : PS H i j B r a o) (hli : lm ≤ i) (hlj : lm ≤ j) (hB : B.length ≤ 1000000) (hw : 1 ≤ w ∧ w ≤ 6) :
 ∃ (v : Int) (H' : aB) (a' : Nat) (o' : Option Nat), Call tab (some lm) bU [.ptr i 0, .int .i64 (w : Int), .int .i64 lo, .int .i64 hi] H = some (.int .i64 v, H') ∧ PS H' i j B (nx r (bR w lo hi)) a' o' ∧ Alt H H' i j o o' ∧ Vl r (bR w lo hi) v ∧ 0 ≤ v ∧ v < 281474976710656 ∧ (o' = none → lo ≤ v ∧ v ≤ hi) := by
 have ha := h.hi
 have hat := fun s => aIi (s := s) h.wj
 rcases h.is with ⟨rfl, rfl⟩ | ⟨f, k, t, rfl, rfl, hf, hk, h1, h2⟩
 ·by_cases hsh : (B.length : Int) - a < w
  ·have hb := K5 h.ri h.wj hli hB ha hsh
   have hx : bR w lo hi (B.drop a) = .error 2 := aBy (by rw [List.length_drop]; omega)
   obtain ⟨p1, p2⟩ := h.failed (k := 2) (t := (a : Int)) (.inl rfl)
   have hri := h.ri
   refine ⟨0, _, a, _, ?_, by rw [qC hx]; exact p1, p2, n4 hx, by decide, by decide, fun h => by cases h⟩
   generalize (H ++ [fC (a : Int) 2]).set i (rC j (some H.length)) = G at *
   unfold rC P8 at hri
   ((first | refine aC ?_ | skip); refine eE (cf := bM) rfl rfl rfl (by decide) ?_; unfold bM; dsimp only [aA, Nat.reduceAdd, Nat.zero_add])
   repeat' (first | refine aF ?_ | refine yc ?_ (ha := by first | exact hat _ | exact hb | assumption) | refine sG (fun _ => ?_) fun _ => ?_ | refine aG ?_ | refine sH (fun _ => ?_) fun _ => ?_ | fail)
   rfl
  ·have hb := K6 h.ri h.wj hli hB ha hsh
   obtain ⟨p1, p2⟩ := h.read (b := a + w) (by omega)
   have hn := aMg (n := w) h.wj hlj (by omega) hB (by omega)
   have hl : ¬ (B.drop a).length < w := by rw [List.length_drop]; omega
   have hbd := m5 (l := (B.drop a).take w) (k := 6) (by rw [List.length_take]; omega)
   have hri := h.ri
   by_cases hin : lo ≤ cW ((B.drop a).take w) ∧ cW ((B.drop a).take w) ≤ hi
   ·have hx : bR w lo hi (B.drop a) = .ok (cW ((B.drop a).take w), (B.drop a).drop w) := aGw hl hin
    have hwi := fun s H => E9 (s := s) (H := H) (a := cW ((B.drop a).take w)) (b := lo) (c := hi)
    rw [decide_eq_true hin] at hwi
    refine ⟨cW ((B.drop a).take w), _, a + w, none, ?_, by rw [tJ hx, List.drop_drop]; exact p1, p2, aBr hx, hbd.1, hbd.2, fun _ => hin⟩
    generalize cW ((B.drop a).take w) = q at *
    unfold rC P8 at hri
    ((first | refine aC ?_ | skip); refine eE (cf := bM) rfl rfl rfl (by decide) ?_; unfold bM; dsimp only [aA, Nat.reduceAdd, Nat.zero_add])
    repeat' (first | refine aF ?_ | refine yc ?_ (ha := by first | exact hat _ | exact hb | exact hn | exact hwi _ _ | assumption) | refine sG (fun _ => ?_) fun _ => ?_ | refine aG ?_ | refine sH (fun _ => ?_) fun _ => ?_ | fail)
    rfl
   ·have hx : bR w lo hi (B.drop a) = .error 6 := aI7 hl hin
    have hwi := fun s H => E9 (s := s) (H := H) (a := cW ((B.drop a).take w)) (b := lo) (c := hi)
    rw [decide_eq_false hin] at hwi
    obtain ⟨q1, q2⟩ := p1.failed (k := 6) (t := (a : Int)) (.inr rfl)
    have hfa := aEh (t := (a : Int)) (k := 6) p1.ri hli
    refine ⟨cW ((B.drop a).take w), _, a + w, _, ?_, by rw [qC hx]; exact q1, p2.trans0 q2, n4 hx, hbd.1, hbd.2, fun h => by cases h⟩
    generalize cW ((B.drop a).take w) = q at *
    generalize (H.set j (wC B (a + w)) ++ [fC (a : Int) 6]).set i (rC j (some (H.set j (wC B (a + w))).length)) = G at *
    unfold rC P8 at hri
    ((first | refine aC ?_ | skip); refine eE (cf := bM) rfl rfl rfl (by decide) ?_; unfold bM; dsimp only [aA, Nat.reduceAdd, Nat.zero_add])
    repeat' (first | refine aF ?_ | refine yc ?_ (ha := by first | exact hat _ | exact hb | exact hn | exact hwi _ _ | exact hfa | assumption) | refine sG (fun _ => ?_) fun _ => ?_ | refine aG ?_ | refine sH (fun _ => ?_) fun _ => ?_ | fail)
    rfl
 ·have hb := K4 (w := (w : Int)) h.ri hli
  have hri := h.ri
  refine ⟨0, H, a, some f, ?_, ⟨h.ri, h.wj, ha, h.ne, .inr ⟨f, k, t, rfl, rfl, hf, hk, h1, h2⟩⟩, Alt.refl, zA, by decide, by decide, fun h => by cases h⟩
  unfold rC P8 at hri
  ((first | refine aC ?_ | skip); refine eE (cf := bM) rfl rfl rfl (by decide) ?_; unfold bM; dsimp only [aA, Nat.reduceAdd, Nat.zero_add])
  repeat' (first | refine aF ?_ | refine yc ?_ (ha := by first | exact hat _ | exact hb | assumption) | refine sG (fun _ => ?_) fun _ => ?_ | refine aG ?_ | refine sH (fun _ => ?_) fun _ => ?_ | fail)
  rfl
theorem P9 {lo hi : Int} (h : PS H i j B r a o) (hli : lm ≤ i) (hlj : lm ≤ j) (hB : B.length ≤ 1000000) :
 ∃ (v : Int) (H' : aB) (a' : Nat) (o' : Option Nat), Call tab (some lm) bD [.ptr i 0, .int .i64 lo, .int .i64 hi] H = some (.int .i64 v, H') ∧ PS H' i j B (nx r (bR 1 lo hi)) a' o' ∧ Alt H H' i j o o' ∧ Vl r (bR 1 lo hi) v ∧ 0 ≤ v ∧ v < 281474976710656 ∧ (o' = none → lo ≤ v ∧ v ≤ hi) := by
 obtain ⟨v, H', a', o', c, p⟩ := aJ6 (w := 1) (lo := lo) (hi := hi) h hli hlj hB (by decide)
 refine ⟨v, H', a', o', ?_, p⟩
 ((first | refine aC ?_ | skip); refine eE (cf := kV) rfl rfl rfl (by decide) ?_; unfold kV; dsimp only [aA, Nat.reduceAdd, Nat.zero_add])
 repeat' (first | refine aF ?_ | refine yc ?_ (ha := by first | exact c | assumption) | refine sG (fun _ => ?_) fun _ => ?_ | refine aG ?_ | refine sH (fun _ => ?_) fun _ => ?_ | fail)
 rfl
set_option maxHeartbeats 1000000 in
theorem aOi (h : PS H i j B r a o) (hli : lm ≤ i) (hlj : lm ≤ j) (hB : B.length ≤ 1000000) :
 ∃ (v : Int) (H' : aB) (a' : Nat) (o' : Option Nat), Call tab (some lm) jR [.ptr i 0, .int .i64 6] H = some (.int .i64 v, H') ∧ PS H' i j B (nx r O7) a' o' ∧ Alt H H' i j o o' ∧ Vl r O7 v := by
 have ha := h.hi
 have hat := fun s => aIi (s := s) h.wj
 rcases h.is with ⟨rfl, rfl⟩ | ⟨f, k, t, rfl, rfl, hf, hk, h1, h2⟩
 ·by_cases hsh : (B.length : Int) - a < 6
  ·have hb := K5 h.ri h.wj hli hB ha hsh
   have hx : O7 (B.drop a) = .error 2 := aBz (by rw [List.length_drop]; omega)
   obtain ⟨p1, p2⟩ := h.failed (k := 2) (t := (a : Int)) (.inl rfl)
   have hri := h.ri
   refine ⟨0, _, a, _, ?_, by rw [qC hx]; exact p1, p2, n4 hx⟩
   generalize (H ++ [fC (a : Int) 2]).set i (rC j (some H.length)) = G at *
   unfold rC P8 at hri
   ((first | refine aC ?_ | skip); refine eE (cf := bF) rfl rfl rfl (by decide) ?_; unfold bF; dsimp only [aA, Nat.reduceAdd, Nat.zero_add])
   repeat' (first | refine aF ?_ | refine yc ?_ (ha := by first | exact hat _ | exact hb | assumption) | refine sG (fun _ => ?_) fun _ => ?_ | refine aG ?_ | refine sH (fun _ => ?_) fun _ => ?_ | fail)
   rfl
  ·have hb := K6 h.ri h.wj hli hB ha hsh
   obtain ⟨p1, p2⟩ := h.read (b := a + 6) (by omega)
   have hn := aTk h.wj hlj (by omega) hB
   have hl : ¬ (B.drop a).length < 6 := by rw [List.length_drop]; omega
   have hri := h.ri
   by_cases hin : -1099511627776 ≤ mD ((B.drop a).take 6) ∧ mD ((B.drop a).take 6) ≤ 1099511627776
   ·have hx : O7 (B.drop a) = .ok (mD ((B.drop a).take 6), (B.drop a).drop 6) := aLy hl hin
    have hwi := fun s H => E9 (s := s) (H := H) (a := mD ((B.drop a).take 6)) (b := -1099511627776) (c := 1099511627776)
    rw [decide_eq_true hin] at hwi
    refine ⟨mD ((B.drop a).take 6), _, a + 6, none, ?_, by rw [tJ hx, List.drop_drop]; exact p1, p2, aBr hx⟩
    generalize mD ((B.drop a).take 6) = q at *
    unfold rC P8 at hri
    ((first | refine aC ?_ | skip); refine eE (cf := bF) rfl rfl rfl (by decide) ?_; unfold bF; dsimp only [aA, Nat.reduceAdd, Nat.zero_add])
    repeat' (first | refine aF ?_ | refine yc ?_ (ha := by first | exact hat _ | exact hb | exact hn | exact hwi _ _ | assumption) | refine sG (fun _ => ?_) fun _ => ?_ | refine aG ?_ | refine sH (fun _ => ?_) fun _ => ?_ | fail)
    rfl
   ·have hx : O7 (B.drop a) = .error 6 := aI8 hl hin
    have hwi := fun s H => E9 (s := s) (H := H) (a := mD ((B.drop a).take 6)) (b := -1099511627776) (c := 1099511627776)
    rw [decide_eq_false hin] at hwi
    obtain ⟨q1, q2⟩ := p1.failed (k := 6) (t := (a : Int)) (.inr rfl)
    have hfa := aEh (t := (a : Int)) (k := 6) p1.ri hli
    refine ⟨mD ((B.drop a).take 6), _, a + 6, _, ?_, by rw [qC hx]; exact q1, p2.trans0 q2, n4 hx⟩
    generalize mD ((B.drop a).take 6) = q at *
    generalize (H.set j (wC B (a + 6)) ++ [fC (a : Int) 6]).set i (rC j (some (H.set j (wC B (a + 6))).length)) = G at *
    unfold rC P8 at hri
    ((first | refine aC ?_ | skip); refine eE (cf := bF) rfl rfl rfl (by decide) ?_; unfold bF; dsimp only [aA, Nat.reduceAdd, Nat.zero_add])
    repeat' (first | refine aF ?_ | refine yc ?_ (ha := by first | exact hat _ | exact hb | exact hn | exact hwi _ _ | exact hfa | assumption) | refine sG (fun _ => ?_) fun _ => ?_ | refine aG ?_ | refine sH (fun _ => ?_) fun _ => ?_ | fail)
    rfl
 ·have hb := K4 (w := 6) h.ri hli
  have hri := h.ri
  refine ⟨0, H, a, some f, ?_, ⟨h.ri, h.wj, ha, h.ne, .inr ⟨f, k, t, rfl, rfl, hf, hk, h1, h2⟩⟩, Alt.refl, zA⟩
  unfold rC P8 at hri
  ((first | refine aC ?_ | skip); refine eE (cf := bF) rfl rfl rfl (by decide) ?_; unfold bF; dsimp only [aA, Nat.reduceAdd, Nat.zero_add])
  repeat' (first | refine aF ?_ | refine yc ?_ (ha := by first | exact hat _ | exact hb | assumption) | refine sG (fun _ => ?_) fun _ => ?_ | refine aG ?_ | refine sH (fun _ => ?_) fun _ => ?_ | fail)
  rfl
end
end Go.Abs
