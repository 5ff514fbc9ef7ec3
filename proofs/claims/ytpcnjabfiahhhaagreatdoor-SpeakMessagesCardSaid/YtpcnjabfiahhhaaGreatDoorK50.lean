/- A part of the proof of RowSpeakOffers, RowSpeakMessages: lemmas alone, without conditions. -/
import Derived.Test.YtpcnjabfiahhhaaGreatDoorK37
import Derived.Test.YtpcnjabfiahhhaaGreatDoorK38
import Derived.Test.YtpcnjabfiahhhaaGreatDoorK39
import Derived.Test.YtpcnjabfiahhhaaGreatDoorK40
import Derived.Test.YtpcnjabfiahhhaaGreatDoorK42
import Derived.Test.YtpcnjabfiahhhaaGreatDoorK43
import Derived.Test.YtpcnjabfiahhhaaGreatDoorK44
import Derived.Test.YtpcnjabfiahhhaaGreatDoorK45
import Derived.Test.YtpcnjabfiahhhaaGreatDoorK46
import Derived.Test.YtpcnjabfiahhhaaGreatDoorK47
import Derived.Test.YtpcnjabfiahhhaaGreatDoorK41
import Derived.Test.YtpcnjabfiahhhaaGreatDoorK49
import Derived.Test.YtpcnjabfiahhhaaGreatDoorK22
import Derived.JoinedOf
set_option linter.all false
namespace Go.Abs
open Go.Proofs.YtpcnjabfiahhhaaGreatDoor
attribute [local irreducible] enL R RR fP fB pX fK fQ pU apply fT gQ bW bZ eJ bR iL bG bD eC cR kD dO V.rb V.rbL
theorem lG : ∀ (k p : Nat), (aN k p).length ≤ 1000 := by
 intro k p; unfold aN; split <;> decide
end Go.Abs
namespace Go.Abs
open Go.Proofs.YtpcnjabfiahhhaaGreatDoor
attribute [local irreducible] enL R RR fP fB pX fK fQ pU apply fT gQ bW bZ eJ bR iL bG bD eC cR kD dO V.rb V.rbL
abbrev C6 : Ty := .st [.int .i64, .int .i64, .int .i64, .int .i64, .int .i64, .sl (.int .i64), .int .i64, .int .i64]
theorem aJd {cs : List V} (h : vO C6 cs) : ∃ x : Node, cs = Cel.enc x ∧ True := by
 simp only [C6, vO, TyL] at h
 obtain ⟨_, _, rfl, ⟨a, rfl, _⟩, _, _, rfl, ⟨b, rfl, _⟩, _, _, rfl, ⟨c, rfl, _⟩, _, _, rfl, ⟨d, rfl, _⟩, _, _, rfl, ⟨e, rfl, _⟩, f, _, rfl, hf, _, _, rfl, ⟨g, rfl, _⟩, _, _, rfl, ⟨i, rfl, _⟩, rfl⟩ := h
 obtain ⟨f', rfl, _⟩ := aLo (fun _ => aLn) (show vO (.sl (.int .i64)) f from by simpa only [vO] using hf)
 exact ⟨⟨a, b, c, d, e, f', g, i⟩, rfl, trivial⟩
theorem mQ {s : Option Nat} {H : aC} : Call tab s mE [] H = some (.bool true, H) := aD.2 ⟨60, by kernel_rfl⟩
theorem aOk {s : Option Nat} {H : aC} {y : Say} : Call tab s vS [y.v, y.v] H = some (.bool true, H) := by
 unfold Say.v
 ((first | refine aJ ?_ | skip); refine bX (cf := rO) rfl rfl rfl rfl ?_; unfold rO; dsimp only [aB, Nat.reduceAdd, Nat.zero_add])
 repeat' (first | refine aS ?_ | refine yc ?_ | (show zn; refine aA ?_) | (show gA; first | refine aH (fun _ => ?_) fun _ => ?_ | refine gc_E (fun _ => ?_) fun _ => ?_ | refine gc_N (fun _ => ?_) fun _ => ?_ | refine aT ?_ | refine gc_B (fun _ => ?_) fun _ => ?_) | fail)
 rw [beq_self_eq_true]
end Go.Abs
namespace Go.Abs
open Go.Proofs.YtpcnjabfiahhhaaGreatDoor
attribute [local irreducible] enL R RR fP fB pX fK fQ pU apply fT gQ bW bZ eJ bR iL bG bD eC cR kD dO V.rb V.rbL
theorem aFs {s : Option Nat} {H : aC} (m : Int) : ∃ (c : Config) (P : Nat → List Port) (S : Nat → List Slot), NetR c P S ∧ (∀ p, (S p).length ≤ 1000) ∧ xO c P ∧ (∀ p, (P p).length ≤ 1000) ∧ Call tab s cY [.int .i64 m] H = some (c.v, H) := by
 have hc : 1 + m % 65536 % 4 = 1 ∨ 1 + m % 65536 % 4 = 2 ∨ 1 + m % 65536 % 4 = 3 ∨ 1 + m % 65536 % 4 = 4 := by omega
 have hs : (¬ m % 65536 / 4 % 4 = 1 ∧ ¬ m % 65536 / 4 % 4 = 2) ∨ m % 65536 / 4 % 4 = 1 ∨ m % 65536 / 4 % 4 = 2 := by omega
 rcases hc with hc | hc | hc | hc
 ·obtain ⟨x, hx, h⟩ := aTz (s := s) (H := H) hc
  exact ⟨_, _, _, aWd hx, lG 0, aRr x, lC 0, h⟩
 ·obtain ⟨x, hx, h⟩ := aU0 (s := s) (H := H) hc
  exact ⟨_, _, _, aWe hx, lG 1, aRs x, lC 1, h⟩
 ·rcases hs with hs | hs | hs
  ·obtain ⟨x, hx, h⟩ := aW9 (s := s) (H := H) hc hs
   exact ⟨_, _, _, aWf hx, lG 2, aRt x, lC 2, h⟩
  ·obtain ⟨x, hx, h⟩ := aV2 (s := s) (H := H) hc hs
   exact ⟨_, _, _, aWg hx, lG 3, aRu x, lC 3, h⟩
  ·obtain ⟨x, hx, h⟩ := aWa (s := s) (H := H) hc hs
   exact ⟨_, _, _, aWb hx, lG 4, aRv x, lC 4, h⟩
 ·rcases hs with hs | hs | hs
  ·obtain ⟨x, hx, h⟩ := aV1 (s := s) (H := H) hc hs
   exact ⟨_, _, _, aWc hx, lG 5, aRw x, lC 5, h⟩
  ·obtain ⟨x, hx, h⟩ := aUa (s := s) (H := H) hc hs
   exact ⟨_, _, _, aWx hx, lG 6, aRx x, lC 6, h⟩
  ·obtain ⟨x, hx, h⟩ := aW6 (s := s) (H := H) hc hs
   exact ⟨_, _, _, aVa hx, lG 7, aRy x, lC 7, h⟩
end Go.Abs
namespace Go.Abs
open Go.RowKit (Below)
open Go.ChangeShapes Go.WideShapes
section
variable {H : Type} {enc : TypeId × Value → H} {P : Program} {w : World}
theorem G9 : ∀ {vs : List V} {cs : List Value}, (∀ v ∈ vs, v.dis1 = v) → bE vs cs = []
 | [], _, _ => rfl
 | _ :: _, [], _ => rfl
 | v :: vs, c :: cs, h => by
   simp only [bE, G9 fun u hu => h u (List.mem_cons_of_mem _ hu), List.append_nil]
   rw [← h v (List.mem_cons_self ..), fZ]
theorem aM6 {held : Bool} {ty : Ty} {t : TypeId} {v : Value} {d : DataW H} {ps : List MemPlace} {r : Reach} {b : Nat} (hok : wC P ty t = true) (hw : Value.okWide P w r b t v) (h : DataW.Trod enc P w 0 (fun _ => true) held t v d ps) (hwt : ∀ n ∈ d.weights P t, n ≤ reachBytes) :
 ∃ u : V, TyA ty u ∧ Rep (xM w) [] w u v ∧ dF u v = [] := by
 obtain ⟨fuel, hf⟩ := h
 obtain ⟨vs, h1, h2⟩ := wD ty t fuel _ _ hok hf hwt
 have agg : ty.isAgg = true → (∃ cs, v = .agg cs) → ∃ u : V, TyA ty u ∧ Rep (xM w) [] w u v ∧ dF u v = [] := by
  rintro ha ⟨cs, rfl⟩
  refine ⟨.agg vs, ?_, ?_, ?_⟩
  ·unfold TyA; rw [if_pos ha]; exact ⟨vs, rfl, h1⟩
  ·simp only [Rep]; exact ⟨cs, rfl, h2.1, fun x hx => (h2.2 x hx).1⟩
  ·exact G9 fun x hx => (h2.2 x hx).2
 have one : ty.isAgg = false → (∃ x, vs = [x]) → v.cells = #[v] → ∃ u : V, TyA ty u ∧ Rep (xM w) [] w u v ∧ dF u v = [] := by
  rintro ha ⟨x, rfl⟩ hc
  have h3 := h2.1
  rw [hc] at h3
  simp only [RepL] at h3
  obtain ⟨c, r, e, h4, _⟩ := h3
  simp only [List.cons.injEq] at e
  obtain ⟨rfl, _⟩ := e
  obtain ⟨s1, s2⟩ := h2.2 x (List.mem_cons_self ..)
  refine ⟨x, ?_, h4, ?_⟩
  ·unfold TyA; rw [if_neg (by simp [ha])]; exact h1
  ·rw [hJ (.inr trivial) (.inl s1), ← s2, fZ]
 cases ty with
 | bool =>
   simp only [wC] at hok
   split at hok
   ·rename_i ht
    simp only [vO] at h1
    obtain ⟨x, rfl⟩ := h1
    obtain ⟨y, rfl⟩ := okWide_bool ht hw
    exact one rfl ⟨_, rfl⟩ rfl
   ·cases hok
 | int k =>
   simp only [wC] at hok
   split at hok
   ·rename_i j ht
    simp only [vO] at h1
    obtain ⟨x, rfl, _⟩ := h1
    obtain ⟨y, rfl⟩ := okWide_int ht hw
    exact one rfl ⟨_, rfl⟩ rfl
   ·cases hok
 | str =>
   simp only [wC] at hok
   split at hok
   ·rename_i ht
    simp only [vO] at h1
    obtain ⟨x, rfl, _⟩ := h1
    obtain ⟨y, rfl⟩ := okWide_string ht hw
    exact one rfl ⟨_, rfl⟩ rfl
   ·cases hok
 | sl e =>
   simp only [wC] at hok
   split at hok
   ·rename_i u ht
    simp only [vO] at h1
    obtain ⟨x, rfl, _⟩ := h1
    obtain ⟨y, l, c, rfl⟩ := okWide_slice ht hw
    exact one rfl ⟨_, rfl⟩ rfl
   ·cases hok
 | st fs =>
   simp only [wC] at hok
   split at hok
   ·rename_i gs ht
    simp only [Value.okWide, ht] at hw
    obtain ⟨cs, rfl, _⟩ := hw
    exact agg rfl ⟨_, rfl⟩
   ·cases hok
 | arr n e =>
   simp only [wC] at hok
   split at hok
   ·rename_i m u ht
    simp only [Value.okWide, ht] at hw
    obtain ⟨cs, rfl, _⟩ := hw
    exact agg rfl ⟨_, rfl⟩
   ·cases hok
theorem aB9 {held : Bool} : ∀ {tys : List Ty} {ts : List TypeId} {vs : List Value} {ds : List (DataW H)} {ps : List MemPlace} {r : Reach} {b : Nat}, aBa P tys ts = true →
 (∀ (j : Nat) t v, ts[j]? = some t → vs[j]? = some v → Value.okWide P w r b t v) → DataW.TrodAll enc P w 0 (fun _ => true) held ts vs ds ps → (∀ n ∈ DataW.weightsEach P ts ds, n ≤ reachBytes) →
 ∃ us : List V, aHb tys us ∧ us.length = vs.length ∧ ds.length = tys.length ∧ (∀ p ∈ us.zip vs, Rep (xM w) [] w p.1 p.2) ∧ aP (us.zip vs) = []
 | [], [], [], [], _, _, _, _, _, _, _ => ⟨[], by simp only [aHb], rfl, rfl, by simp, rfl⟩
 | [], [], [], _ :: _, _, _, _, _, _, h, _ => h.elim
 | [], [], _ :: _, _, _, _, _, _, _, h, _ => by cases ‹List (DataW H)› <;> exact h.elim
 | [], _ :: _, _, _, _, _, _, hok, _, _, _ => by simp [aBa] at hok
 | _ :: _, [], _, _, _, _, _, hok, _, _, _ => by simp [aBa] at hok
 | ty :: tys, t :: ts, vs, ds, ps, r, b, hok, hw, h, hwt => by
   simp only [aBa, Bool.and_eq_true] at hok
   obtain ⟨v, vs', d, ds', p, q, rfl, rfl, rfl, h1, h2⟩ := trodAll_cons h
   rw [DataW.weightsEach] at hwt
   obtain ⟨u, a1, a2, a3⟩ := aM6 hok.1 (hw 0 t v rfl rfl) h1 fun n hn => hwt n (List.mem_append.2 (.inl hn))
   obtain ⟨us, b1, b2, b3, b4, b5⟩ := aB9 hok.2 (fun j t' v' ht hv => hw (j + 1) t' v' (by simpa using ht) (by simpa using hv)) h2 fun n hn => hwt n (List.mem_append.2 (.inr hn))
   refine ⟨u :: us, by simp only [aHb]; exact ⟨u, us, rfl, a1, b1⟩, by simp [b2], by simp [b3], ?_, ?_⟩
   ·intro p hp
    simp only [List.zip_cons_cons] at hp
    rcases List.mem_cons.1 hp with rfl | hp
    ·exact a2
    ·exact b4 p hp
   ·simp only [List.zip_cons_cons, aP, a3, b5, List.append_nil]
theorem aM7 {us : List V} {cs : List Value} (h : ∀ p ∈ us.zip cs, Rep (xM w) [] w p.1 p.2) (ht : aP (us.zip cs) = []) : St none w.heap.size [] (xM w) [] (us.zip cs) [] w := by
 refine ⟨h, rfl, fun i cs b hi => by simp at hi, fun x => by rw [ht]; simp [aX, bQ, ind], fun t hm => ?_, fun b o hx => ⟨by simp, hx⟩, fun b hb => ?_, fun l hl => (by cases hl), fun i j b cs ds _ hb => by simp at hb⟩
 ·rw [ht] at hm; simp [bQ] at hm
 ·simp at hb
theorem g9 (hl : laidOutB P = true) {W W' : World} (hb : Below W.heap.size W W') : ∀ {ts : List TypeId} {vs : List Value} {ds : List (DataW H)} {ps : List MemPlace}, (∀ t ∈ ts, P.readableRec t = true ∧ t < P.types.size) →
 DataW.TrodAll enc P W 0 (fun _ => true) true ts vs ds ps → DataW.TrodAll enc P W' 0 (fun b => decide (b < W.heap.size)) true ts vs ds ps
 | [], [], [], _, _, h => h
 | [], [], _ :: _, _, _, h => h.elim
 | [], _ :: _, ds, _, _, h => by cases ds <;> exact h.elim
 | t :: ts, vs, ds, ps, hr, h => by
   obtain ⟨v, vs', d, ds', p, q, rfl, rfl, rfl, h1, h2⟩ := trodAll_cons h
   have ht := hr t (List.mem_cons_self ..)
   refine ⟨p, q, Go.RowKit.Below.trod hl ht.1 ht.2 h1 hb ?_, g9 hl hb (fun u hu => hr u (List.mem_cons_of_mem _ hu)) h2, rfl⟩
   obtain ⟨m, hm⟩ := h1
   exact DataW.trod_lt m _ _ _ hm
def aM8 (P : Program) (ts : List TypeId) : Bool := ts.all fun t => P.readableRec t && decide (t < P.types.size)
def aIq (P : Program) (f : Func) : Bool := match f.resultTypes.toList with | [t] => (match P.underlying t with | some .bool => true | _ => false) | _ => false
theorem xL : ∀ {ts us : List TypeId} {l k : List (DataW H)} {n : Nat}, n ∈ DataW.weightsEach P ts l → n ∈ DataW.weightsEach P (ts ++ us) (l ++ k)
 | [], _, _, _, _, h => by simp [DataW.weightsEach] at h
 | _ :: _, _, [], _, _, h => by simp [DataW.weightsEach] at h
 | t :: ts, us, c :: l, k, n, h => by
   rw [DataW.weightsEach, List.mem_append] at h
   rw [List.cons_append, List.cons_append, DataW.weightsEach, List.mem_append]
   exact h.imp id xL
theorem s3 {T : Tab} {pure : FuncId → Bool} (hTab : TabOK P T pure) (hlaid : laidOutB P = true) {f : FuncId} {fn : Func} {s : ChangeSpec} {tys : List Ty} (htys : aBa P tys fn.params.toList = true) (hread : aM8 P fn.params.toList = true) (hres : aIq P fn = true)
 (hvars : s.vars = []) (hspec : ∀ ds : List (DataW H), ds.length = tys.length → s.fn H ds = { results := [.lit (.bool true)], args := ds })
 (hcall : ∀ us, aHb tys us → Call T none f us [] = some (.bool true, []))
 (W : World) (base : Nat) (args : Array Value) (ds gs : List (DataW H)) (before : List MemPlace)
 (hval : ∀ (j : Nat) t v, fn.params[j]? = some t → args[j]? = some v → Value.okWide P W .any base t v) (hW : DataW.Whole enc P fn.params.toList s.vars false W args.toList ds gs before) (hwt : (DataW.weightsEach P (fn.params.toList ++ s.plain.varTypes P) (ds ++ gs)).all (· ≤ reachBytes) = true) :
 Calls P f args W fun e W' => ∃ v, e = .returned v ∧ s.post enc P fn false true false false W args v W' := by
 have hW' := hW
 obtain ⟨p, q, hA, hV, rfl, _, _⟩ := hW
 rw [hvars] at hV
 obtain ⟨rfl, rfl⟩ := trodVars_none hV
 obtain ⟨us, u1, u2, u3, u4, u5⟩ := aB9 (r := .any) (b := base) htys (fun j t v ht hv => hval j t v (by simpa using ht) (by simpa using hv)) hA fun n hn => of_decide_eq_true (List.all_eq_true.1 hwt n (xL hn))
 have hc := aRf (cs := args.toList) hTab (hcall us u1) u2 (aM7 u4 u5) (Nat.le_refl _)
 refine (show Calls P f args W _ from hc).mono fun e W' he => ?_
 cases e with
 | returned c =>
   obtain ⟨S', bl', g, x⟩ := he
   have hb := (g.rep _ (List.mem_cons_self ..)).bool_inv
   simp only at hb
   subst hb
   refine ⟨_, rfl, ds, [], p ++ [], [], p, [], hW', ?_, ?_, ?_, Below.frame x.below _, fun h => by cases h⟩
   ·rw [List.append_nil, hspec ds u3]
    unfold aIq at hres
    split at hres
    ·rename_i t ht
     split at hres
     ·rename_i hu
      have hsz : fn.resultTypes.size = 1 := by rw [← Array.length_toList, ht]; rfl
      rw [ht, hsz]
      exact trodAll_mk1 (Go.RowKit.shut_bool hu _)
     ·cases hres
    ·cases hres
   ·rw [List.append_nil, hspec ds u3]
    refine g9 hlaid x.below (fun t ht => ?_) hA
    unfold aM8 at hread
    have := List.all_eq_true.1 hread t ht
    simpa using this
   ·rw [List.append_nil, hspec ds u3, hvars]; rfl
 | _ => exact he.elim
end
end Go.Abs
