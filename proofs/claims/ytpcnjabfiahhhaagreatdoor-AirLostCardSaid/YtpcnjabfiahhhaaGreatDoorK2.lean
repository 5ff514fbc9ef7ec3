/- A part of the proof of RowAirFits, RowAirHeard, RowAirOrder, RowAirLost: lemmas alone, without conditions. -/
import Derived.Test.YtpcnjabfiahhhaaGreatDoorK1
import Derived.Below
import Derived.Orders
import Derived.Laws.Sem
set_option linter.all false
namespace Go.Abs
def Le {α : Type} (a b : Option α) : Prop := ∀ x, a = some x → b = some x
theorem Le.refl {α : Type} (a : Option α) : Le a a := fun _ h => h
theorem Le.trans {α : Type} {a b c : Option α} (h : Le a b) (k : Le b c) : Le a c := fun x e => k x (h x e)
theorem Le.none {α : Type} (b : Option α) : Le none b := fun _ h => by cases h
theorem Le.bind {α β : Type} {a b : Option α} {f g : α → Option β} (h : Le a b) (k : ∀ x, Le (f x) (g x)) : Le (a.bind f) (b.bind g) := by
 intro y e
 cases ha : a with
 | none => rw [ha] at e; cases e
 | some x => rw [ha] at e; rw [h x ha]; exact k x y e
theorem Le.map {α β : Type} {a b : Option α} {f : α → β} (h : Le a b) : Le (a.map f) (b.map f) := by
 intro y e
 cases ha : a with
 | none => rw [ha] at e; cases e
 | some x => rw [ha] at e; rw [h x ha]; exact e
def RLe (T T' : Oracle) : Prop := ∀ (s : Option Nat) (f : FuncId) (args : List V) (H : aB), Le (T s f args H) (T' s f args H)
def OLe (T T' : Orc) : Prop := RLe T.run T'.run ∧ T.pu = T'.pu
theorem Le.ite {α : Type} {p : Prop} [Decidable p] {a b c d : Option α} (h : Le a b) (k : Le c d) : Le (if p then a else c) (if p then b else d) := by
 split
 ·exact h
 ·exact k
theorem F5 {T T' : Orc} (h : OLe T T') (s : Option Nat) (i : I) (e : aQ) (H : aB) : Le (step T s i e H) (step T' s i e H) := by
 cases i with
 | call f xs nw => simp only [step, h.2]; exact Le.bind (Le.refl _) fun r => Le.ite (Le.map (Le.bind (h.1 s f r.1 H) fun _ => Le.refl _)) (Le.refl _)
 | cav x xs =>
   simp only [step, h.2]
   refine Le.bind (Le.refl _) fun p => ?_
   split
   ·exact Le.bind (Le.refl _) fun r => Le.ite (Le.map (h.1 _ _ _ _)) (Le.refl _)
   ·exact Le.none _
 | cam tbl x xs =>
   simp only [step, h.2]
   refine Le.bind (Le.refl _) fun p => ?_
   split
   ·split
    ·exact Le.bind (Le.refl _) fun r => Le.ite (Le.map (h.1 _ _ _ _)) (Le.refl _)
    ·exact Le.none _
   ·exact Le.none _
 | _ => exact Le.refl _
theorem Q0 {T T' : Orc} (h : OLe T T') (s : Option Nat) (o) (e : aQ) (H : aB) : Le (lA T s o e H) (lA T' s o e H) := by
 unfold lA
 split
 ·exact Le.map (F5 h s _ e H)
 ·split
  ·split
   ·exact Le.map (F5 h s _ e H)
   ·exact Le.refl _
  ·exact Le.refl _
  ·exact Le.refl _
theorem j8 {T T' : Orc} (h : OLe T T') (s : Option Nat) : ∀ ops e H, Le (lB T s ops e H) (lB T' s ops e H)
 | [], e, H => Le.refl _
 | o :: r, e, H => Le.bind (Q0 h s o e H) fun q => j8 h s r q.1 q.2
theorem wI {s : Option Nat} {b b' : aQ → aB → Option oY} (h : ∀ e H, Le (b e H) (b' e H)) : ∀ {n n' : Nat}, n ≤ n' → ∀ e H, Le (D0 s b n e H) (D0 s b' n' e H)
 | 0, _, _, e, H => Le.none _
 | n + 1, 0, hn, _, _ => by omega
 | n + 1, n' + 1, hn, e, H => by
   unfold D0
   refine Le.bind (h e H) fun r => ?_
   split
   ·exact wI h (by omega) _ _
   ·exact Le.refl _
theorem gT {T T' : Orc} (h : OLe T T') (s : Option Nat) {n n' : Nat} (hn : n ≤ n') : ∀ c e H, Le (d7 T s n c e H) (d7 T' s n' c e H)
 | .nop, e, H => Le.refl _
 | .reg keep conf free fps ops, e, H => Le.ite (Le.refl _) (Le.bind (j8 h s ops e H) fun _ => Le.refl _)
 | .seq a b, e, H => by
   unfold d7
   refine Le.bind (gT h s hn a e H) fun r => ?_
   split
   ·exact gT h s hn b _ _
   ·exact Le.refl _
 | .cnd x a b, e, H => by
   unfold d7
   refine Le.bind (Le.refl _) fun p => ?_
   split
   ·split
    ·exact gT h s hn a _ _
    ·exact gT h s hn b _ _
   ·exact Le.refl _
 | .blk id c, e, H => Le.map (gT h s hn c e H)
 | .loop c, e, H => wI (fun e H => gT h s hn c e H) hn e H
 | .exit id, e, H => Le.refl _
 | .ret, e, H => Le.refl _
theorem Q3 (T : Tab) : ∀ n, RLe (hY T n) (hY T (n + 1))
 | 0 => fun _ _ _ _ => Le.none _
 | n + 1 => by
   intro s f args H
   have ih := Q3 T n
   rw [hY, hY]
   split
   ·exact Le.refl _
   ·split
    ·exact Le.refl _
    ·split
     ·refine Le.bind (gT (T := ⟨hY T n, T.pu⟩) (T' := ⟨hY T (n + 1), T.pu⟩) ⟨ih, rfl⟩ _ (Nat.le_succ n) _ _ _) fun r => ?_
      exact Le.refl _
     ·exact Le.refl _
theorem Q4 (T : Tab) {n n' : Nat} (h : n ≤ n') : RLe (hY T n) (hY T n') := by
 induction h with
 | refl => exact fun _ _ _ _ => Le.refl _
 | step _ ih => exact fun s f a H => (ih s f a H).trans (Q3 T _ s f a H)
abbrev s0 (T : Tab) (n : Nat) : Orc := ⟨hY T n, T.pu⟩
theorem nW (T : Tab) {n n' : Nat} (h : n ≤ n') : OLe (s0 T n) (s0 T n') := ⟨Q4 T h, rfl⟩
open Classical in
noncomputable def lim {α : Type} (g : Nat → Option α) : Option α := if h : ∃ x n, g n = some x then some h.choose else none
theorem aHr {α : Type} {g : Nat → Option α} (hm : ∀ n n', n ≤ n' → Le (g n) (g n')) {x : α} : lim g = some x ↔ ∃ n, g n = some x := by
 unfold lim
 split
 ·rename_i h
  obtain ⟨m, hm'⟩ := h.choose_spec
  constructor
  ·intro e
   cases e
   exact ⟨m, hm'⟩
  ·rintro ⟨n, hn⟩
   have a := hm m (max m n) (Nat.le_max_left ..) _ hm'
   have b := hm n (max m n) (Nat.le_max_right ..) _ hn
   exact a.symm.trans b
 ·rename_i h
  constructor
  ·intro e; cases e
  ·rintro ⟨n, hn⟩; exact absurd ⟨x, n, hn⟩ h
noncomputable def Call (T : Tab) : Oracle := fun s f args H => lim fun n => hY T n s f args H
theorem dU {T : Tab} {s f args H x} : Call T s f args H = some x ↔ ∃ n, hY T n s f args H = some x :=
 aHr fun n n' h => Q4 T h s f args H
noncomputable abbrev orc (T : Tab) : Orc := ⟨Call T, T.pu⟩
theorem aCx (T : Tab) (n : Nat) : OLe (s0 T n) (orc T) := ⟨fun _ _ _ _ _ e => dU.2 ⟨n, e⟩, rfl⟩
noncomputable def EX (T : Tab) (s : Option Nat) (c : C) (e : aQ) (H : aB) : Option oY := lim fun n => d7 (s0 T n) s n c e H
theorem eO {T : Tab} {s c e H x} : EX T s c e H = some x ↔ ∃ n, d7 (s0 T n) s n c e H = some x :=
 aHr fun n n' h => gT (nW T h) s h c e H
theorem j9 {α : Type} {a b : Option α} (h : ∀ x, a = some x ↔ b = some x) : a = b := by
 cases a with
 | none => cases b with
   | none => rfl
   | some y => exact ((h y).2 rfl)
 | some x => exact ((h x).1 rfl).symm
theorem aEk (T : Tab) {s i e H x} : step (orc T) s i e H = some x ↔ ∃ n, step (s0 T n) s i e H = some x := by
 constructor
 ·cases i with
  | call f xs nw =>
    intro h
    simp only [step, Option.bind_eq_some_iff] at h
    obtain ⟨r, hr, h⟩ := h
    split at h
    ·rename_i hp
     obtain ⟨q, hq, rfl⟩ := Option.map_eq_some_iff.1 h
     obtain ⟨hq, hk⟩ := qI hq
     obtain ⟨n, hn⟩ := dU.1 hq
     exact ⟨n, by simp only [step, hr, Option.bind_some, if_pos hp, P5 hn hk, Option.map_some]⟩
    ·cases h
  | cav x xs =>
    intro h
    simp only [step, Option.bind_eq_some_iff] at h
    obtain ⟨⟨v, e1⟩, hp, h⟩ := h
    cases v <;> try cases h
    simp only [Option.bind_eq_some_iff] at h
    obtain ⟨r, hr, h⟩ := h
    split at h
    ·rename_i hp'
     obtain ⟨q, hq, rfl⟩ := Option.map_eq_some_iff.1 h
     obtain ⟨n, hn⟩ := dU.1 hq
     exact ⟨n, by simp only [step, hp, Option.bind_some, hr, if_pos hp', hn, Option.map_some]⟩
    ·cases h
  | cam tbl x xs =>
    intro h
    simp only [step, Option.bind_eq_some_iff] at h
    obtain ⟨⟨v, e1⟩, hp, h⟩ := h
    cases v <;> try cases h
    simp only at h
    split at h
    ·rename_i f hl
     simp only [Option.bind_eq_some_iff] at h
     obtain ⟨r, hr, h⟩ := h
     split at h
     ·rename_i hp'
      obtain ⟨q, hq, rfl⟩ := Option.map_eq_some_iff.1 h
      obtain ⟨n, hn⟩ := dU.1 hq
      exact ⟨n, by simp only [step, hp, Option.bind_some, hl, hr, if_pos hp', hn, Option.map_some]⟩
     ·cases h
    ·cases h
  | mv x => exact fun h => ⟨0, h⟩
  | op o xs => exact fun h => ⟨0, h⟩
  | pick c a b => exact fun h => ⟨0, h⟩
  | exm i t => exact fun h => ⟨0, h⟩
 ·rintro ⟨n, hn⟩
  exact F5 (aCx T n) s i e H x hn
theorem aOo (T : Tab) {s o e H x} : lA (orc T) s o e H = some x ↔ ∃ n, lA (s0 T n) s o e H = some x := by
 constructor
 ·obtain ⟨d, g, i⟩ := o
  cases g with
  | none =>
    intro h
    obtain ⟨r, hr, rfl⟩ := Option.map_eq_some_iff.1 (show (step (orc T) s i e H).map _ = some x from h)
    obtain ⟨n, hn⟩ := (aEk T).1 hr
    exact ⟨n, by simp only [lA, hn]; rfl⟩
  | some gw =>
    obtain ⟨g, want⟩ := gw
    intro h
    simp only [lA] at h ⊢
    cases hc : eget e g with
    | none => rw [hc] at h; cases h
    | some v =>
      rw [hc] at h
      cases v <;> try cases h
      case tup.refl => exact ⟨0, rfl⟩
      rename_i c
      simp only at h ⊢
      split at h
      ·rename_i hw
       obtain ⟨r, hr, rfl⟩ := Option.map_eq_some_iff.1 h
       obtain ⟨n, hn⟩ := (aEk T).1 hr
       exact ⟨n, by rw [if_pos hw, hn]; rfl⟩
      ·rename_i hw
       exact ⟨0, by rw [if_neg hw]; exact h⟩
 ·rintro ⟨n, hn⟩
  exact Q0 (aCx T n) s o e H x hn
theorem Q5 (T : Tab) {s} : ∀ {ops e H x}, lB (orc T) s ops e H = some x ↔ ∃ n, lB (s0 T n) s ops e H = some x
 | [], e, H, x => ⟨fun h => ⟨0, h⟩, fun ⟨_, h⟩ => h⟩
 | o :: r, e, H, x => by
   constructor
   ·intro h
    simp only [lB, Option.bind_eq_some_iff] at h
    obtain ⟨q, hq, h⟩ := h
    obtain ⟨n, hn⟩ := (aOo T).1 hq
    obtain ⟨m, hm⟩ := (Q5 T (s := s)).1 h
    refine ⟨max n m, ?_⟩
    have h1 := Q0 (nW T (Nat.le_max_left n m)) s o e H _ hn
    have h2 := j8 (nW T (Nat.le_max_right n m)) s r _ _ _ hm
    simp [lB, h1, h2]
   ·rintro ⟨n, hn⟩
    exact j8 (aCx T n) s _ e H x hn
theorem aRw (T : Tab) (s e H) : EX T s .nop e H = some (.nrm, e, H) := eO.2 ⟨0, rfl⟩
theorem aOp (T : Tab) (s e H id) : EX T s (.exit id) e H = some (.exit id, e, H) := eO.2 ⟨0, rfl⟩
theorem aRx (T : Tab) (s e H) : EX T s .ret e H = some (.ret, e, H) := eO.2 ⟨0, rfl⟩
theorem aRy (T : Tab) (s keep conf free fps ops e H) : EX T s (.reg keep conf free fps ops) e H = if !gK e then none else (lB (orc T) s ops e H).bind fun r => if nK conf r.1 && hU free r.1 && sS fps r.1 then some (.nrm, aZ keep r.1, r.2) else none := by
 refine j9 fun x => eO.trans ?_
 simp only [d7]
 by_cases hc : (!gK e) = true
 ·rw [if_pos hc]
  exact ⟨fun ⟨n, h⟩ => (by rw [if_pos hc] at h; cases h), fun h => (by cases h)⟩
 simp only [if_neg hc, Option.bind_eq_some_iff]
 constructor
 ·rintro ⟨n, r, hr, h⟩; exact ⟨r, (Q5 T).2 ⟨n, hr⟩, h⟩
 ·rintro ⟨r, hr, h⟩; obtain ⟨n, hn⟩ := (Q5 T).1 hr; exact ⟨n, r, hn, h⟩
theorem aRz (T : Tab) (s a b e H) : EX T s (.seq a b) e H = (EX T s a e H).bind fun r => match r.1 with
 | .nrm => EX T s b r.2.1 r.2.2
 | x => some (x, r.2.1, r.2.2) := by
 refine j9 fun x => eO.trans ?_
 simp only [d7, Option.bind_eq_some_iff]
 constructor
 ·rintro ⟨n, ⟨y, e1, H1⟩, hr, h⟩
  refine ⟨⟨y, e1, H1⟩, eO.2 ⟨n, hr⟩, ?_⟩
  cases y with
  | nrm => exact eO.2 ⟨n, h⟩
  | _ => exact h
 ·rintro ⟨⟨y, e1, H1⟩, hr, h⟩
  obtain ⟨n, hn⟩ := eO.1 hr
  cases y with
  | nrm =>
    obtain ⟨m, hm⟩ := eO.1 h
    exact ⟨max n m, _, gT (nW T (Nat.le_max_left n m)) s (Nat.le_max_left n m) _ _ _ _ hn,
     gT (nW T (Nat.le_max_right n m)) s (Nat.le_max_right n m) _ _ _ _ hm⟩
  | _ => exact ⟨n, _, hn, h⟩
theorem aS0 (T : Tab) (s x a b e H) : EX T s (.cnd x a b) e H = (eI x e).bind fun p => match p.1 with
 | .bool t => if t then EX T s a p.2 H else EX T s b p.2 H
 | _ => none := by
 refine j9 fun y => eO.trans ?_
 simp only [d7, Option.bind_eq_some_iff]
 constructor
 ·rintro ⟨n, ⟨v, e1⟩, hp, h⟩
  refine ⟨⟨v, e1⟩, hp, ?_⟩
  cases v <;> try cases h
  rename_i t
  cases t
  ·exact eO.2 ⟨n, h⟩
  ·exact eO.2 ⟨n, h⟩
 ·rintro ⟨⟨v, e1⟩, hp, h⟩
  cases v <;> try cases h
  rename_i t
  cases t
  ·obtain ⟨n, hn⟩ := eO.1 h
   exact ⟨n, _, hp, hn⟩
  ·obtain ⟨n, hn⟩ := eO.1 h
   exact ⟨n, _, hp, hn⟩
theorem aS1 (T : Tab) (s id c e H) : EX T s (.blk id c) e H = (EX T s c e H).map fun r => match r.1 with
 | .exit j => if j = id then (.nrm, r.2.1, r.2.2) else (.exit j, r.2.1, r.2.2)
 | x => (x, r.2.1, r.2.2) := by
 refine j9 fun x => eO.trans ?_
 simp only [d7, Option.map_eq_some_iff]
 constructor
 ·rintro ⟨n, r, hr, rfl⟩; exact ⟨r, eO.2 ⟨n, hr⟩, rfl⟩
 ·rintro ⟨r, hr, rfl⟩; obtain ⟨n, hn⟩ := eO.1 hr; exact ⟨n, r, hn, rfl⟩
theorem aOq (T : Tab) (s c e H) : EX T s (.loop c) e H = (EX T s c e H).bind fun r => match r.1 with
 | .nrm => EX T s (.loop c) r.2.1 (cK s H r.2.1 r.2.2)
 | x => some (x, r.2.1, r.2.2) := by
 refine j9 fun x => eO.trans ?_
 simp only [d7, Option.bind_eq_some_iff]
 constructor
 ·rintro ⟨n, h⟩
  cases n with
  | zero => cases h
  | succ n =>
    simp only [D0, Option.bind_eq_some_iff] at h
    obtain ⟨⟨y, e1, H1⟩, hr, h⟩ := h
    refine ⟨⟨y, e1, H1⟩, eO.2 ⟨_, hr⟩, ?_⟩
    cases y with
    | nrm => exact eO.2 ⟨n + 1, wI (fun _ _ => Le.refl _) (Nat.le_succ n) _ _ _ h⟩
    | _ => exact h
 ·rintro ⟨⟨y, e1, H1⟩, hr, h⟩
  obtain ⟨n, hn⟩ := eO.1 hr
  cases y with
  | nrm =>
    obtain ⟨m, hm⟩ := eO.1 h
    refine ⟨max n m + 1, ?_⟩
    simp only [D0, Option.bind_eq_some_iff]
    have l1 : n ≤ max n m + 1 := by omega
    have l2 : m ≤ max n m + 1 := by omega
    exact ⟨_, gT (nW T l1) s l1 _ _ _ _ hn, wI (fun e H => gT (nW T l2) s l2 c e H) (Nat.le_max_right n m) _ _ _ hm⟩
  | _ =>
    refine ⟨n + 1, ?_⟩
    simp only [D0, Option.bind_eq_some_iff]
    exact ⟨_, gT (nW T (Nat.le_succ n)) s (Nat.le_succ n) _ _ _ _ hn, h⟩
theorem aJ8 {T : Tab} {s : Option Nat} {f : FuncId} {args : List V} {H : aB} {cf : CF} (hp : T.prim f = none) (hc : T.code f = some cf) (ha : args.length = cf.np) :
 Call T s f args H = (EX T (o8 cf.mode s (base cf.mode args H)) cf.body (aA 0 (qJ cf.mode args H)) (base cf.mode args H)).bind fun r => match r.1 with
  | .exit _ => none
  | _ => (aP r.2.1 r.2.2 cf.res).bind fun vs => aN cf.mode s H (base cf.mode args H) vs r.2.2 := by
 refine j9 fun x => dU.trans ?_
 simp only [Option.bind_eq_some_iff]
 constructor
 ·rintro ⟨n, h⟩
  cases n with
  | zero => cases h
  | succ n =>
    simp only [hY, hp, hc, ha, if_true, Option.bind_eq_some_iff] at h
    obtain ⟨r, hr, h⟩ := h
    exact ⟨r, eO.2 ⟨n, hr⟩, h⟩
 ·rintro ⟨r, hr, h⟩
  obtain ⟨n, hn⟩ := eO.1 hr
  refine ⟨n + 1, ?_⟩
  simp only [hY, hp, hc, ha, if_true, Option.bind_eq_some_iff]
  exact ⟨r, hn, h⟩
end Go.Abs
namespace Go.Abs
set_option linter.unusedVariables false
def Fits (w : World) (b k : Nat) : Prop := ∃ carr e f, w.heap[b]? = some (.cells carr e f) ∧ k ≤ carr.size
theorem Fits.same {w w' : World} {b k : Nat} (h : Fits w b k) (e : w'.heap[b]? = w.heap[b]?) : Fits w' b k := by unfold Fits; rw [e]; exact h
theorem Fits.le {w : World} {b k m : Nat} (h : Fits w b k) (e : m ≤ k) : Fits w b m := by
 obtain ⟨carr, t, f, h1, h2⟩ := h; exact ⟨carr, t, f, h1, Nat.le_trans e h2⟩
theorem Fits.lt {w : World} {b k : Nat} (h : Fits w b k) : b < w.heap.size := by
 obtain ⟨carr, t, f, h1, h2⟩ := h; exact (Array.getElem?_eq_some_iff.1 h1).1
mutual
def Rep (S : Nat → Nat → Prop) (bl : List Nat) (w : World) : V → Value → Prop
 | .bool b, c => c = .bool b
 | .int k n, c => c = .int k n
 | .str s, c => ∃ a : ByteArray, c = .string a ∧ a.data.toList = s
 | .ptr id off, c => ∃ b, bl[id]? = some b ∧ c = .pointer (some ⟨b, off, none⟩)
 | .nilp, c => c = .pointer none
 | .fp cs i, c => ∃ b o, c = .pointer (some ⟨b, o + i, none⟩) ∧ RepC S bl w cs b o
 | .via id off n cs, c => (∃ b, bl[id]? = some b ∧ w.cell? ⟨b, off, none⟩ = some c) ∧
  ∃ a cap, c = .slice a n cap ∧ n ≤ cap ∧ (a = none → n = 0 ∧ cap = 0 ∧ cs = []) ∧ ∀ ad, a = some ad → (cap ≠ 0 → ad.spot = none) ∧ RepC S bl w cs ad.block ad.off
 | .sl _ n cs, c => ∃ a cap, c = .slice a n cap ∧ n ≤ cap ∧ (a = none → n = 0 ∧ cap = 0 ∧ cs = []) ∧ ∀ ad, a = some ad → (cap ≠ 0 → ad.spot = none) ∧ RepC S bl w cs ad.block ad.off
 | .ar sz id off n k, c => ∃ b cap, bl[id]? = some b ∧ (n ≤ k ∧ k ≤ cap) ∧ c = .slice (some ⟨b, off, none⟩) n cap ∧ Fits w b (off + cap * sz)
 | .fn f caps, c => ∃ cs, c = .func (.func f) #[] cs ∧ RepL S bl w caps cs.toList ∧ ∀ v ∈ caps, v.single = true
 | .nilf, c => c = .nilFunc
 | .ifc t v, c => ∃ u, c = .iface t u ∧ Rep S bl w v u ∧ v.noVia = true
 | .nili, c => c = .nilIface
 | .nls, c => c = .slice none 0 0
 | .raw b o, c => c = .pointer (some ⟨b, o, none⟩)
 | .agg cs, c => ∃ a, c = .agg a ∧ RepL S bl w cs a.toList ∧ ∀ v ∈ cs, v.single = true
 | .tup vs, c => ∃ a, c = .tuple a ∧ RepL S bl w vs a.toList ∧ ∀ v ∈ vs, v.noVia = true
def RepL (S : Nat → Nat → Prop) (bl : List Nat) (w : World) : List V → List Value → Prop
 | [], cs => cs = []
 | v :: vs, cs => ∃ c r, cs = c :: r ∧ Rep S bl w v c ∧ RepL S bl w vs r
def RepC (S : Nat → Nat → Prop) (bl : List Nat) (w : World) : List V → Nat → Nat → Prop
 | [], _, _ => True
 | v :: vs, b, o => S b o ∧ v.single = true ∧ (∃ c, w.cell? ⟨b, o, none⟩ = some c ∧ Rep S bl w v c) ∧ RepC S bl w vs b (o + 1)
end
structure Keeps (S : Nat → Nat → Prop) (w : World) (S' : Nat → Nat → Prop) (w' : World) : Prop where
 more : ∀ b o, S b o → S' b o
 cell : ∀ b o, S b o → w'.cell? ⟨b, o, none⟩ = w.cell? ⟨b, o, none⟩
 size : ∀ b k, Fits w b k → Fits w' b k
theorem V.noVia_of_single {v : V} (h : v.single = true) : v.noVia = true := by cases v <;> first | rfl | cases h
mutual
theorem Rep.mono {S S' : Nat → Nat → Prop} {bl bl' : List Nat} {w w' : World} (k : Keeps S w S' w') (hb : ∀ i b : Nat, bl[i]? = some b → bl'[i]? = some b) :
 ∀ (v : V) (c : Value), v.noVia = true → Rep S bl w v c → Rep S' bl' w' v c
 | .bool _, _, _, h | .int .., _, _, h | .nilp, _, _, h | .nilf, _, _, h | .nili, _, _, h | .nls, _, _, h | .raw .., _, _, h | .str _, _, _, h => by simpa only [Rep] using h
 | .ptr id off, c, _, h => by
   simp only [Rep] at h ⊢
   obtain ⟨b, h1, h2⟩ := h
   exact ⟨b, hb _ _ h1, h2⟩
 | .fp cs i, c, _, h => by
   simp only [Rep] at h ⊢
   obtain ⟨b, o, h1, h2⟩ := h
   exact ⟨b, o, h1, RepC.mono k hb cs b o h2⟩
 | .via .., _, n, _ => by cases n
 | .sl _ n cs, c, _, h => by
   simp only [Rep] at h ⊢
   obtain ⟨a, cap, h3, h4, h5, h6⟩ := h
   exact ⟨a, cap, h3, h4, h5, fun ad e => ⟨(h6 ad e).1, RepC.mono k hb cs _ _ (h6 ad e).2⟩⟩
 | .ar sz id off n r, c, _, h => by
   simp only [Rep] at h ⊢
   obtain ⟨b, cap, h1, h2, h3, h4⟩ := h
   exact ⟨b, cap, hb _ _ h1, h2, h3, k.size _ _ h4⟩
 | .fn f caps, c, _, h => by
   simp only [Rep] at h ⊢
   obtain ⟨cs, h1, h2, h3⟩ := h
   exact ⟨cs, h1, RepL.mono k hb caps _ (fun v hv => V.noVia_of_single (h3 v hv)) h2, h3⟩
 | .ifc t v, c, _, h => by
   simp only [Rep] at h ⊢
   obtain ⟨u, h1, h2, h3⟩ := h
   exact ⟨u, h1, Rep.mono k hb v u h3 h2, h3⟩
 | .agg cs, c, _, h => by
   simp only [Rep] at h ⊢
   obtain ⟨a, h1, h2, h3⟩ := h
   exact ⟨a, h1, RepL.mono k hb cs _ (fun v hv => V.noVia_of_single (h3 v hv)) h2, h3⟩
 | .tup vs, c, _, h => by
   simp only [Rep] at h ⊢
   obtain ⟨a, h1, h2, h3⟩ := h
   exact ⟨a, h1, RepL.mono k hb vs _ h3 h2, h3⟩
theorem RepL.mono {S S' : Nat → Nat → Prop} {bl bl' : List Nat} {w w' : World} (k : Keeps S w S' w') (hb : ∀ i b : Nat, bl[i]? = some b → bl'[i]? = some b) :
 ∀ (vs : List V) (cs : List Value), (∀ v ∈ vs, v.noVia = true) → RepL S bl w vs cs → RepL S' bl' w' vs cs
 | [], _, _, h => by simpa only [RepL] using h
 | v :: vs, cs, n, h => by
   simp only [RepL] at h ⊢
   obtain ⟨c, r, h1, h2, h3⟩ := h
   exact ⟨c, r, h1, Rep.mono k hb v c (n v (List.mem_cons_self ..)) h2, RepL.mono k hb vs r (fun u hu => n u (List.mem_cons_of_mem _ hu)) h3⟩
theorem RepC.mono {S S' : Nat → Nat → Prop} {bl bl' : List Nat} {w w' : World} (k : Keeps S w S' w') (hb : ∀ i b : Nat, bl[i]? = some b → bl'[i]? = some b) :
 ∀ (vs : List V) (b o : Nat), RepC S bl w vs b o → RepC S' bl' w' vs b o
 | [], _, _, h => by simp only [RepC]
 | v :: vs, b, o, h => by
   simp only [RepC] at h ⊢
   obtain ⟨h1, h2, ⟨c, h3, h4⟩, h5⟩ := h
   exact ⟨k.more _ _ h1, h2, ⟨c, by rw [k.cell _ _ h1]; exact h3, Rep.mono k hb v c (V.noVia_of_single h2) h4⟩, RepC.mono k hb vs b (o + 1) h5⟩
end
theorem Rep.mono_via {S S' : Nat → Nat → Prop} {bl bl' : List Nat} {w w' : World} (k : Keeps S w S' w') (hb : ∀ i b : Nat, bl[i]? = some b → bl'[i]? = some b)
 (hv : ∀ i b o : Nat, bl[i]? = some b → w'.cell? ⟨b, o, none⟩ = w.cell? ⟨b, o, none⟩) (v : V) (c : Value) (h : Rep S bl w v c) : Rep S' bl' w' v c := by
 by_cases n : v.noVia = true
 ·exact Rep.mono k hb v c n h
 ·cases v <;> try exact absurd rfl n
  simp only [Rep] at h ⊢
  obtain ⟨⟨b, h1, h2⟩, a, cap, h3, h4, h5, h6⟩ := h
  exact ⟨⟨b, hb _ _ h1, by rw [hv _ _ _ h1]; exact h2⟩, a, cap, h3, h4, h5, fun ad e => ⟨(h6 ad e).1, RepC.mono k hb _ _ _ (h6 ad e).2⟩⟩
theorem kP {S bl w} : ∀ (vs : List V) (b o : Nat), RepC S bl w vs b o ↔ ∀ (j : Nat) (v : V), vs[j]? = some v → S b (o + j) ∧ v.single = true ∧ ∃ c, w.cell? ⟨b, o + j, none⟩ = some c ∧ Rep S bl w v c
 | [], b, o => by simp [RepC]
 | v :: vs, b, o => by
   simp only [RepC, kP vs b (o + 1)]
   constructor
   ·rintro ⟨h1, h2, h3, h4⟩ j u hj
    cases j with
    | zero => simp at hj; subst hj; exact ⟨h1, h2, h3⟩
    | succ j =>
      have := h4 j u (by simpa using hj)
      rwa [show o + 1 + j = o + (j + 1) by omega] at this
   ·intro h
    obtain ⟨h1, h2, h3⟩ := h 0 v rfl
    refine ⟨h1, h2, h3, fun j u hj => ?_⟩
    have := h (j + 1) u (by simpa using hj)
    rwa [show o + 1 + j = o + (j + 1) by omega]
theorem aK {S bl w} : ∀ (vs : List V) (cs : List Value), RepL S bl w vs cs ↔ vs.length = cs.length ∧ ∀ (j : Nat) (v : V) (c : Value), vs[j]? = some v → cs[j]? = some c → Rep S bl w v c
 | [], cs => by
   simp only [RepL]
   constructor
   ·rintro rfl; simp
   ·rintro ⟨h, _⟩; exact (List.length_eq_zero_iff.1 h.symm)
 | v :: vs, cs => by
   simp only [RepL]
   constructor
   ·rintro ⟨c, r, rfl, h1, h2⟩
    obtain ⟨h3, h4⟩ := (aK vs r).1 h2
    refine ⟨by simp [h3], fun j u d hu hd => ?_⟩
    cases j with
    | zero => simp at hu hd; subst hu; subst hd; exact h1
    | succ j => exact h4 j u d (by simpa using hu) (by simpa using hd)
   ·rintro ⟨h, h'⟩
    cases cs with
    | nil => simp at h
    | cons c r => exact ⟨c, r, rfl, h' 0 v c rfl rfl, (aK vs r).2 ⟨by simpa using h, fun j u d hu hd => h' (j + 1) u d (by simpa using hu) (by simpa using hd)⟩⟩
theorem kQ {S bl w} : ∀ {vs us : List V} {cs ds : List Value}, RepL S bl w vs cs → RepL S bl w us ds → RepL S bl w (vs ++ us) (cs ++ ds)
 | [], us, cs, ds, h, k => by simp only [RepL] at h; subst h; exact k
 | v :: vs, us, cs, ds, h, k => by
   simp only [RepL, List.cons_append] at h ⊢
   obtain ⟨c, r, rfl, h1, h2⟩ := h
   exact ⟨c, r ++ ds, rfl, h1, kQ h2 k⟩
theorem Rep.dis1 {S bl w} {v : V} {c : Value} (h : Rep S bl w v c) : Rep S bl w v.dis1 c := by
 cases v <;> try exact h
 simp only [V.dis1, Rep] at h ⊢
 exact h.2
theorem V.dis1_single {v : V} (h : v.single = true) : v.dis1.single = true := by cases v <;> first | rfl | cases h
theorem V.dis1_noVia (v : V) : v.dis1.noVia = true := by cases v <;> rfl
theorem RepL.dis1 {S bl w} : ∀ {vs : List V} {cs : List Value}, RepL S bl w vs cs → RepL S bl w (vs.map V.dis1) cs
 | [], cs, h => h
 | v :: vs, cs, h => by
   simp only [RepL, List.map_cons] at h ⊢
   obtain ⟨c, r, h1, h2, h3⟩ := h
   exact ⟨c, r, h1, h2.dis1, RepL.dis1 h3⟩
theorem RepC.dis1 {S bl w} : ∀ {vs : List V} {b o : Nat}, RepC S bl w vs b o → RepC S bl w (vs.map V.dis1) b o
 | [], _, _, h => h
 | v :: vs, b, o, h => by
   simp only [RepC, List.map_cons] at h ⊢
   obtain ⟨h1, h2, ⟨c, h3, h4⟩, h5⟩ := h
   exact ⟨h1, V.dis1_single h2, ⟨c, h3, h4.dis1⟩, RepC.dis1 h5⟩
theorem Rep.dis2 {S bl w} {v : V} {c : Value} (h : Rep S bl w v c) : Rep S bl w v.dis2 c := by
 cases v <;> try exact h
 all_goals simp only [V.dis2, Rep] at h ⊢
 ·exact h.2
 ·obtain ⟨a, h1, h2, h3⟩ := h
  exact ⟨a, h1, h2.dis1, fun u hu => by obtain ⟨x, hx, rfl⟩ := List.mem_map.1 hu; exact V.dis1_single (h3 x hx)⟩
theorem V.dis2_noVia (v : V) : v.dis2.noVia = true := by cases v <;> rfl
theorem RepL.dis2 {S bl w} : ∀ {vs : List V} {cs : List Value}, RepL S bl w vs cs → RepL S bl w (vs.map V.dis2) cs
 | [], cs, h => h
 | v :: vs, cs, h => by
   simp only [RepL, List.map_cons] at h ⊢
   obtain ⟨c, r, h1, h2, h3⟩ := h
   exact ⟨c, r, h1, h2.dis2, RepL.dis2 h3⟩
theorem Rep.dis {S bl w} {v : V} {c : Value} (h : Rep S bl w v c) : Rep S bl w v.dis c := by
 cases v <;> try exact h
 all_goals simp only [V.dis, Rep] at h ⊢
 ·exact h.2
 ·obtain ⟨a, h1, h2, h3⟩ := h
  exact ⟨a, h1, h2.dis1, fun u hu => by obtain ⟨x, hx, rfl⟩ := List.mem_map.1 hu; exact V.dis1_single (h3 x hx)⟩
 ·obtain ⟨a, h1, h2, h3⟩ := h
  exact ⟨a, h1, h2.dis2, fun u hu => by obtain ⟨x, hx, rfl⟩ := List.mem_map.1 hu; exact V.dis2_noVia x⟩
theorem V.dis_noVia (v : V) : v.dis.noVia = true := by cases v <;> rfl
theorem Rep.oneCell {S bl w} {v : V} {c : Value} (h : Rep S bl w v c) (hs : v.single = true) : c.oneCell' = true ∧ c.cells = #[c] := by
 cases v with
 | bool | int | nilp | nilf | nili | nls | raw => simp only [Rep] at h; subst h; exact ⟨rfl, rfl⟩
 | str => simp only [Rep] at h; obtain ⟨a, rfl, _⟩ := h; exact ⟨rfl, rfl⟩
 | ptr => simp only [Rep] at h; obtain ⟨b, _, rfl⟩ := h; exact ⟨rfl, rfl⟩
 | fp => simp only [Rep] at h; obtain ⟨b, o, rfl, _⟩ := h; exact ⟨rfl, rfl⟩
 | via => cases hs
 | sl => simp only [Rep] at h; obtain ⟨a, cap, rfl, _⟩ := h; exact ⟨rfl, rfl⟩
 | ar => simp only [Rep] at h; obtain ⟨b, cap, _, _, rfl, _⟩ := h; exact ⟨rfl, rfl⟩
 | fn => simp only [Rep] at h; obtain ⟨cs, rfl, _⟩ := h; exact ⟨rfl, rfl⟩
 | ifc => simp only [Rep] at h; obtain ⟨u, rfl, _⟩ := h; exact ⟨rfl, rfl⟩
 | agg => cases hs
 | tup => cases hs
theorem Rep.cells {S bl w} {v : V} {c : Value} (h : Rep S bl w v c) (hs : v.single = true ∨ ∃ cs, v = .agg cs) : RepL S bl w v.cells c.cells.toList ∧ ∀ u ∈ v.cells, u.single = true := by
 rcases hs with hs | ⟨cs, rfl⟩
 ·have h1 := (h.oneCell hs).2
  have h2 : v.cells = [v] := by cases v <;> first | rfl | cases hs
  rw [h1, h2]
  exact ⟨by simp only [RepL]; exact ⟨c, [], rfl, h, rfl⟩, by simpa using hs⟩
 ·simp only [Rep] at h
  obtain ⟨a, rfl, h2, h3⟩ := h
  exact ⟨h2, h3⟩
mutual
theorem Rep.rb {S bl w} {n : Nat} (hn : bl.length ≤ n) : ∀ (v : V) (c : Value), Rep S bl w v c → v.rb n = true
 | .bool _, _, _ | .int .., _, _ | .nilp, _, _ | .nilf, _, _ | .nili, _, _ | .nls, _, _ | .raw .., _, _ | .str _, _, _ => by simp only [V.rb]
 | .ptr id off, c, h => by
   simp only [Rep] at h; simp only [V.rb, decide_eq_true_eq]
   obtain ⟨b, h1, _⟩ := h
   have := (List.getElem?_eq_some_iff.1 h1).1; omega
 | .fp cs i, c, h => by
   simp only [Rep] at h; simp only [V.rb]
   obtain ⟨b, o, _, h2⟩ := h; exact RepC.rb hn cs b o h2
 | .via id off n' cs, c, h => by
   simp only [Rep] at h; simp only [V.rb, Bool.and_eq_true, decide_eq_true_eq]
   obtain ⟨⟨b, h1, _⟩, a, cap, _, _, h5, h6⟩ := h
   have := (List.getElem?_eq_some_iff.1 h1).1
   refine ⟨by omega, ?_⟩
   cases a with
   | none => rw [(h5 rfl).2.2]; simp only [V.rbL]
   | some ad => exact RepC.rb hn cs _ _ (h6 ad rfl).2
 | .sl _ n' cs, c, h => by
   simp only [Rep] at h; simp only [V.rb]
   obtain ⟨a, cap, _, _, h5, h6⟩ := h
   cases a with
   | none => rw [(h5 rfl).2.2]; simp only [V.rbL]
   | some ad => exact RepC.rb hn cs _ _ (h6 ad rfl).2
 | .ar sz id off n' r, c, h => by
   simp only [Rep] at h; simp only [V.rb, decide_eq_true_eq]
   obtain ⟨b, cap, h1, _⟩ := h
   have := (List.getElem?_eq_some_iff.1 h1).1; omega
 | .fn f caps, c, h => by
   simp only [Rep] at h; simp only [V.rb]
   obtain ⟨cs, _, h2, _⟩ := h; exact RepL.rb hn caps _ h2
 | .ifc t v, c, h => by
   simp only [Rep] at h; simp only [V.rb]
   obtain ⟨u, _, h2, _⟩ := h; exact Rep.rb hn v u h2
 | .agg cs, c, h => by
   simp only [Rep] at h; simp only [V.rb]
   obtain ⟨a, _, h2, _⟩ := h; exact RepL.rb hn cs _ h2
 | .tup vs, c, h => by
   simp only [Rep] at h; simp only [V.rb]
   obtain ⟨a, _, h2, _⟩ := h; exact RepL.rb hn vs _ h2
theorem RepL.rb {S bl w} {n : Nat} (hn : bl.length ≤ n) : ∀ (vs : List V) (cs : List Value), RepL S bl w vs cs → V.rbL n vs = true
 | [], _, _ => by simp only [V.rbL]
 | v :: vs, cs, h => by
   simp only [RepL] at h; simp only [V.rbL, Bool.and_eq_true]
   obtain ⟨c, r, _, h2, h3⟩ := h
   exact ⟨Rep.rb hn v c h2, RepL.rb hn vs r h3⟩
theorem RepC.rb {S bl w} {n : Nat} (hn : bl.length ≤ n) : ∀ (vs : List V) (b o : Nat), RepC S bl w vs b o → V.rbL n vs = true
 | [], _, _, _ => by simp only [V.rbL]
 | v :: vs, b, o, h => by
   simp only [RepC] at h; simp only [V.rbL, Bool.and_eq_true]
   obtain ⟨_, _, ⟨c, _, h4⟩, h5⟩ := h
   exact ⟨Rep.rb hn v c h4, RepC.rb hn vs b (o + 1) h5⟩
end
mutual
theorem V.rb_mono {n m : Nat} (h : n ≤ m) : ∀ v : V, v.rb n = true → v.rb m = true
 | .bool _, _ | .int .., _ | .nilp, _ | .nilf, _ | .nili, _ | .nls, _ | .raw .., _ | .str _, _ => by simp only [V.rb]
 | .ptr id off, k | .ar _ id _ _ _, k => by simp only [V.rb, decide_eq_true_eq] at k ⊢; omega
 | .fp cs i, k => by simp only [V.rb] at k ⊢; exact V.rbL_mono h cs k
 | .via id off n' cs, k => by simp only [V.rb, Bool.and_eq_true, decide_eq_true_eq] at k ⊢; exact ⟨by omega, V.rbL_mono h cs k.2⟩
 | .sl _ n' cs, k => by simp only [V.rb] at k ⊢; exact V.rbL_mono h cs k
 | .fn f caps, k => by simp only [V.rb] at k ⊢; exact V.rbL_mono h caps k
 | .ifc t v, k => by simp only [V.rb] at k ⊢; exact V.rb_mono h v k
 | .agg cs, k => by simp only [V.rb] at k ⊢; exact V.rbL_mono h cs k
 | .tup cs, k => by simp only [V.rb] at k ⊢; exact V.rbL_mono h cs k
theorem V.rbL_mono {n m : Nat} (h : n ≤ m) : ∀ vs : List V, V.rbL n vs = true → V.rbL m vs = true
 | [], _ => by simp only [V.rbL]
 | v :: vs, k => by simp only [V.rbL, Bool.and_eq_true] at k ⊢; exact ⟨V.rb_mono h v k.1, V.rbL_mono h vs k.2⟩
end
theorem V.rbL_iff {n : Nat} : ∀ {vs : List V}, V.rbL n vs = true ↔ ∀ v ∈ vs, v.rb n = true
 | [] => by simp [V.rbL]
 | v :: vs => by simp [V.rbL, V.rbL_iff (vs := vs)]
theorem V.rb_dis1 {n : Nat} (v : V) (h : v.rb n = true) : v.dis1.rb n = true := by
 cases v <;> first | exact h | (simp only [V.rb, V.dis1, Bool.and_eq_true] at h ⊢; exact h.2)
mutual
theorem Rep.cut {S bl w} {m : Nat} : ∀ (v : V) (c : Value), v.rb m = true → Rep S bl w v c → Rep S (bl.take m) w v c
 | .bool _, _, _, h | .int .., _, _, h | .nilp, _, _, h | .nilf, _, _, h | .nili, _, _, h | .nls, _, _, h | .raw .., _, _, h | .str _, _, _, h => by simpa only [Rep] using h
 | .ptr id off, c, k, h => by
   simp only [Rep] at h ⊢; simp only [V.rb, decide_eq_true_eq] at k
   obtain ⟨b, h1, h2⟩ := h
   exact ⟨b, by rw [List.getElem?_take, if_pos k]; exact h1, h2⟩
 | .fp cs i, c, k, h => by
   simp only [Rep] at h ⊢; simp only [V.rb] at k
   obtain ⟨b, o, h1, h2⟩ := h
   exact ⟨b, o, h1, RepC.cut cs b o k h2⟩
 | .via id off n cs, c, k, h => by
   simp only [Rep] at h ⊢; simp only [V.rb, Bool.and_eq_true, decide_eq_true_eq] at k
   obtain ⟨⟨b, h1, h2⟩, a, cap, h3, h4, h5, h6⟩ := h
   exact ⟨⟨b, by rw [List.getElem?_take, if_pos k.1]; exact h1, h2⟩, a, cap, h3, h4, h5, fun ad e => ⟨(h6 ad e).1, RepC.cut cs _ _ k.2 (h6 ad e).2⟩⟩
 | .sl _ n cs, c, k, h => by
   simp only [Rep] at h ⊢; simp only [V.rb] at k
   obtain ⟨a, cap, h3, h4, h5, h6⟩ := h
   exact ⟨a, cap, h3, h4, h5, fun ad e => ⟨(h6 ad e).1, RepC.cut cs _ _ k (h6 ad e).2⟩⟩
 | .ar sz id off n r, c, k, h => by
   simp only [Rep] at h ⊢; simp only [V.rb, decide_eq_true_eq] at k
   obtain ⟨b, cap, h1, h2, h3, h4⟩ := h
   exact ⟨b, cap, by rw [List.getElem?_take, if_pos k]; exact h1, h2, h3, h4⟩
 | .fn f caps, c, k, h => by
   simp only [Rep] at h ⊢; simp only [V.rb] at k
   obtain ⟨cs, h1, h2, h3⟩ := h
   exact ⟨cs, h1, RepL.cut caps _ k h2, h3⟩
 | .ifc t v, c, k, h => by
   simp only [Rep] at h ⊢; simp only [V.rb] at k
   obtain ⟨u, h1, h2, h3⟩ := h
   exact ⟨u, h1, Rep.cut v u k h2, h3⟩
 | .agg cs, c, k, h => by
   simp only [Rep] at h ⊢; simp only [V.rb] at k
   obtain ⟨a, h1, h2, h3⟩ := h
   exact ⟨a, h1, RepL.cut cs _ k h2, h3⟩
 | .tup vs, c, k, h => by
   simp only [Rep] at h ⊢; simp only [V.rb] at k
   obtain ⟨a, h1, h2, h3⟩ := h
   exact ⟨a, h1, RepL.cut vs _ k h2, h3⟩
theorem RepL.cut {S bl w} {m : Nat} : ∀ (vs : List V) (cs : List Value), V.rbL m vs = true → RepL S bl w vs cs → RepL S (bl.take m) w vs cs
 | [], _, _, h => by simpa only [RepL] using h
 | v :: vs, cs, k, h => by
   simp only [RepL] at h ⊢; simp only [V.rbL, Bool.and_eq_true] at k
   obtain ⟨c, r, h1, h2, h3⟩ := h
   exact ⟨c, r, h1, Rep.cut v c k.1 h2, RepL.cut vs r k.2 h3⟩
theorem RepC.cut {S bl w} {m : Nat} : ∀ (vs : List V) (b o : Nat), V.rbL m vs = true → RepC S bl w vs b o → RepC S (bl.take m) w vs b o
 | [], _, _, _, h => by simp only [RepC]
 | v :: vs, b, o, k, h => by
   simp only [RepC] at h ⊢; simp only [V.rbL, Bool.and_eq_true] at k
   obtain ⟨h1, h2, ⟨c, h3, h4⟩, h5⟩ := h
   exact ⟨h1, h2, ⟨c, h3, Rep.cut v c k.1 h4⟩, RepC.cut vs b (o + 1) k.2 h5⟩
end
end Go.Abs
namespace Go.Abs
open Go.RowKit (Below)
set_option linter.unusedVariables false
structure Tp where
 blk : Nat
 off : Nat
 n : Nat
 cap : Nat
 sz : Nat
def bP : V → Value → List Tp
 | .sl (some sz) n _, .slice (some ad) _ cap => if cap ≤ n then [] else [⟨ad.block, ad.off, n, cap, sz⟩]
 | _, _ => []
def aT : List V → List Value → List Tp
 | v :: vs, c :: cs => bP v c ++ aT vs cs
 | _, _ => []
def cU : V → Value → List Tp
 | .agg vs, .agg a => aT vs a.toList
 | v, c => bP v c
def lU : List V → List Value → List Tp
 | v :: vs, c :: cs => cU v c ++ lU vs cs
 | _, _ => []
def cJ : V → Value → List Tp
 | .tup vs, .tuple a => lU vs a.toList
 | v, c => cU v c
def iT (w : World) : List V → Nat → Nat → List Tp
 | [], _, _ => []
 | v :: vs, b, o => bP v ((w.cell? ⟨b, o, none⟩).getD undef) ++ iT w vs b (o + 1)
def aY (w : World) : aB → List Nat → List Tp
 | cs :: H, b :: bl => iT w cs b 0 ++ aY w H bl
 | _, _ => []
def aH : List (V × Value) → List Tp
 | [] => []
 | p :: r => cJ p.1 p.2 ++ aH r
abbrev aS (l : List Tp) : List Nat := l.map Tp.blk
theorem fF (v : V) (c : Value) : bP v.dis1 c = [] := by cases v <;> rfl
theorem fG : ∀ (vs : List V) (cs : List Value), aT (vs.map V.dis1) cs = []
 | [], _ => rfl
 | _ :: _, [] => rfl
 | v :: vs, c :: cs => by simp only [List.map_cons, aT, fF, fG vs cs, List.append_nil]
theorem u0 (v : V) (c : Value) : cU v.dis2 c = [] := by
 cases v with
 | agg vs => cases c <;> first | rfl | exact fG _ _
 | _ => rfl
theorem T2 : ∀ (vs : List V) (cs : List Value), lU (vs.map V.dis2) cs = []
 | [], _ => rfl
 | _ :: _, [] => rfl
 | v :: vs, c :: cs => by simp only [List.map_cons, lU, u0, T2 vs cs, List.append_nil]
theorem T3 (v : V) (c : Value) : cJ v.dis c = [] := by
 cases v with
 | tup vs => cases c <;> first | rfl | exact T2 _ _
 | agg vs => cases c <;> first | rfl | exact fG _ _
 | _ => rfl
theorem fV {v : V} {c : Value} (h : v.noVia = true ∨ True) (hs : v.single = true ∨ v.noVia = false) : cJ v c = bP v c := by
 cases v <;> first | rfl | (rcases hs with hs | hs <;> cases hs)
theorem dY (a b : List (V × Value)) : aH (a ++ b) = aH a ++ aH b := by
 induction a with
 | nil => rfl
 | cons p r ih => simp only [List.cons_append, aH, ih, List.append_assoc]
structure TipOK (S : Nat → Nat → Prop) (w : World) (t : Tp) : Prop where
 ex : ∃ carr e lo hi, w.heap[t.blk]? = some (.cells carr e (lo, hi)) ∧ t.off + t.cap * t.sz ≤ carr.size ∧ ∀ o, t.off + t.n * t.sz ≤ o → o < carr.size → ¬ (lo ≤ o ∧ o < hi)
 free : ∀ o, t.off + t.n * t.sz ≤ o → ¬ S t.blk o
 le : t.n ≤ t.cap
structure Obj (S : Nat → Nat → Prop) (bl : List Nat) (w : World) (cs : List V) (b : Nat) : Prop where
 ex : ∃ carr e lo hi, w.heap[b]? = some (.cells carr e (lo, hi)) ∧ cs.length ≤ carr.size ∧ ∀ o, o < carr.size → ¬ (lo ≤ o ∧ o < hi)
 rep : ∀ (j : Nat) (v : V), cs[j]? = some v → v.single = true ∧ ∃ c, w.cell? ⟨b, j, none⟩ = some c ∧ Rep S bl w v c
def ind (l : List Nat) (x : Nat) : Nat := if x ∈ l then 1 else 0
theorem eK {l : List Nat} {x : Nat} (h : x ∈ l) : ind l x = 1 := if_pos h
theorem gV {l : List Nat} {x : Nat} (h : x ∉ l) : ind l x = 0 := if_neg h
theorem aF4 {l : List Nat} {m x : Nat} : ind (l.take m) x ≤ ind l x := by
 by_cases h : x ∈ l.take m
 ·rw [eK h, eK (List.mem_of_mem_take h)]; exact Nat.le_refl _
 ·rw [gV h]; exact Nat.zero_le _
theorem aM2 {l : List Nat} {n x : Nat} (hn : n ∉ l) : ind (l ++ [n]) x = ind l x + if n == x then 1 else 0 := by
 by_cases hx : n = x
 ·subst hx
  rw [gV hn, eK (by simp)]; simp
 ·have : (n == x) = false := by simpa using hx
  rw [this]
  by_cases h : x ∈ l
  ·rw [eK h, eK (by simp [h])]; rfl
  ·rw [gV h, gV (by simp [h, Ne.symm hx])]; rfl
def dd : List Nat → List Nat
 | [] => []
 | x :: l => if x ∈ l then dd l else x :: dd l
theorem H6 {x : Nat} : ∀ {l : List Nat}, x ∈ dd l ↔ x ∈ l
 | [] => .rfl
 | y :: l => by
   unfold dd
   by_cases h : y ∈ l
   ·rw [if_pos h, H6, List.mem_cons]
    exact ⟨.inr, fun k => k.elim (fun e => by rw [e]; exact h) id⟩
   ·rw [if_neg h, List.mem_cons, List.mem_cons, H6]
theorem zI {x : Nat} : ∀ {l : List Nat}, (dd l).count x = ind l x
 | [] => rfl
 | y :: l => by
   unfold dd
   by_cases h : y ∈ l
   ·rw [if_pos h, zI]
    by_cases hx : x ∈ l
    ·rw [eK hx, eK (List.mem_cons_of_mem _ hx)]
    ·rw [gV hx, gV (fun k => (List.mem_cons.1 k).elim (fun e => hx (by rw [e]; exact h)) hx)]
   ·rw [if_neg h, List.count_cons, zI]
    by_cases hx : y = x
    ·subst hx
     rw [gV h, eK (List.mem_cons_self ..)]; simp
    ·have : (y == x) = false := by simpa using hx
     rw [this]
     by_cases hl : x ∈ l
     ·rw [eK hl, eK (List.mem_cons_of_mem _ hl)]; rfl
     ·rw [gV hl, gV (fun k => (List.mem_cons.1 k).elim (fun e => hx e.symm) hl)]; rfl
structure St (lim : Option Nat) (B : Nat) (F : List Nat) (S : Nat → Nat → Prop) (bl : List Nat) (vals : List (V × Value)) (H : aB) (w : World) : Prop where
 rep : ∀ p ∈ vals, Rep S bl w p.1 p.2
 len : H.length = bl.length
 obj : ∀ (i : Nat) cs b, H[i]? = some cs → bl[i]? = some b → Obj S bl w cs b
 nodup : ∀ x, F.count x + ind bl x + (aS (aH vals)).count x + (aS (aY w H bl)).count x ≤ 1
 tip : ∀ t, (t ∈ aH vals ∨ t ∈ aY w H bl) → TipOK S w t ∧ B ≤ t.blk
 stab : ∀ b o, S b o → b ∉ bl ∧ (w.cell? ⟨b, o, none⟩).isSome = true
 base : ∀ b, (b ∈ F ∨ b ∈ bl) → B ≤ b ∧ b < w.heap.size
 refs : ∀ l, lim = some l → l ≤ H.length ∧ (∀ (i : Nat) cs, i < l → H[i]? = some cs → V.rbL l cs = true) ∧ ∀ i j b : Nat, i < l → l ≤ j → bl[i]? = some b → bl[j]? ≠ some b
 sep : ∀ (i j b : Nat) cs ds, i ≠ j → bl[i]? = some b → bl[j]? = some b → H[i]? = some cs → H[j]? = some ds → cs = [] ∨ ds = []
structure Ext (lim : Option Nat) (B : Nat) (F : List Nat) (S : Nat → Nat → Prop) (bl : List Nat) (H : aB) (w : World) (S' : Nat → Nat → Prop) (bl' : List Nat) (H' : aB) (w' : World) : Prop where
 keeps : Keeps S w S' w'
 frame : ∀ b ∈ F, w'.heap[b]? = w.heap[b]? ∧ ∀ o, S' b o → S b o
 below : Below B w w'
 bls : ∀ (i b : Nat), bl[i]? = some b → bl'[i]? = some b
 len : H.length ≤ H'.length
 objs : ∀ l, lim = some l → (∀ (i b : Nat), i < l → bl[i]? = some b → w'.heap[b]? = w.heap[b]?) ∧ H'.take l = H.take l
theorem Keeps.refl (S w) : Keeps S w S w := ⟨fun _ _ h => h, fun _ _ _ => rfl, fun _ _ h => h⟩
theorem Keeps.trans {S w S' w' S'' w''} (h : Keeps S w S' w') (k : Keeps S' w' S'' w'') : Keeps S w S'' w'' :=
 ⟨fun b o x => k.more b o (h.more b o x), fun b o x => (k.cell b o (h.more b o x)).trans (h.cell b o x), fun b n x => k.size b n (h.size b n x)⟩
theorem Ext.refl (lim B F S bl H w) : Ext lim B F S bl H w S bl H w :=
 ⟨Keeps.refl _ _, fun _ _ => ⟨rfl, fun _ h => h⟩, Below.refl _ _, fun _ _ h => h, Nat.le_refl _, fun _ _ => ⟨fun _ _ _ _ => rfl, rfl⟩⟩
theorem Ext.trans {lim B F S bl H w S' bl' H' w' S'' bl'' H'' w''} (h : Ext lim B F S bl H w S' bl' H' w') (k : Ext lim B F S' bl' H' w' S'' bl'' H'' w'') : Ext lim B F S bl H w S'' bl'' H'' w'' where
 keeps := h.keeps.trans k.keeps
 frame b hb := ⟨(k.frame b hb).1.trans (h.frame b hb).1, fun o x => (h.frame b hb).2 o ((k.frame b hb).2 o x)⟩
 below := h.below.trans k.below
 bls i b e := k.bls i b (h.bls i b e)
 len := Nat.le_trans h.len k.len
 objs l e := ⟨fun i b hi hb => ((k.objs l e).1 i b hi (h.bls i b hb)).trans ((h.objs l e).1 i b hi hb), (k.objs l e).2.trans (h.objs l e).2⟩
theorem Ext.less {lim B F F' S bl H w S' bl' H' w'} (h : Ext lim B F' S bl H w S' bl' H' w') (hF : ∀ b ∈ F, b ∈ F') : Ext lim B F S bl H w S' bl' H' w' :=
 ⟨h.keeps, fun b hb => h.frame b (hF b hb), h.below, h.bls, h.len, h.objs⟩
theorem jH {w w' : World} {b : Nat} (h : w'.heap[b]? = w.heap[b]?) (o : Nat) : w'.cell? ⟨b, o, none⟩ = w.cell? ⟨b, o, none⟩ := by
 simp only [World.cell?, h]
theorem lQ {w : World} {b : Nat} {carr : Array Value} {e : TypeId} {f : Nat × Nat} (h : w.heap[b]? = some (.cells carr e f)) (o : Nat) : w.cell? ⟨b, o, none⟩ = carr[o]? := by
 simp [World.cell?, h]
theorem aGx {w : World} {b : Nat} {o : Go.Obj} (h : w.heap[b]? = some o) : b < w.heap.size := (Array.getElem?_eq_some_iff.1 h).1
theorem u6 {w : World} {b o : Nat} {v : Value} (h : w.cell? ⟨b, o, none⟩ = some v) : b < w.heap.size := by
 by_cases hb : b < w.heap.size
 ·exact hb
 ·simp [World.cell?, Array.getElem?_eq_none (Nat.le_of_not_lt hb)] at h
theorem u7 {w w' : World} {b : Nat} (h : w'.heap[b]? = w.heap[b]?) : ∀ (vs : List V) (o : Nat), iT w' vs b o = iT w vs b o
 | [], _ => rfl
 | v :: vs, o => by simp only [iT, jH h o, u7 h vs (o + 1)]
theorem pH {w w' : World} : ∀ (H : aB) (bl : List Nat), (∀ b ∈ bl, w'.heap[b]? = w.heap[b]?) → aY w' H bl = aY w H bl
 | [], _, _ => by simp only [aY]
 | _ :: _, [], _ => by simp only [aY]
 | cs :: H, b :: bl, h => by
   simp only [aY, u7 (h b (List.mem_cons_self ..)) cs 0, pH H bl fun x hx => h x (List.mem_cons_of_mem _ hx)]
theorem wQ {w w' : World} : ∀ (H : aB) (bl : List Nat), (∀ (i : Nat) cs b, H[i]? = some cs → bl[i]? = some b → cs = [] ∨ w'.heap[b]? = w.heap[b]?) → aY w' H bl = aY w H bl
 | [], _, _ => by simp only [aY]
 | _ :: _, [], _ => by simp only [aY]
 | cs :: H, b :: bl, h => by
   have e := wQ H bl fun i ds x h1 h2 => h (i + 1) ds x (by simpa using h1) (by simpa using h2)
   rcases h 0 cs b rfl rfl with rfl | h0
   ·simp only [aY, iT, e]
   ·simp only [aY, u7 h0 cs 0, e]
theorem Obj.mono {S S' : Nat → Nat → Prop} {bl bl' : List Nat} {w w' : World} (k : Keeps S w S' w') (hb : ∀ i b : Nat, bl[i]? = some b → bl'[i]? = some b) {cs : List V} {b : Nat} (hs : w'.heap[b]? = w.heap[b]?) (h : Obj S bl w cs b) : Obj S' bl' w' cs b := by
 refine ⟨by rw [hs]; exact h.ex, fun j v hj => ?_⟩
 obtain ⟨h1, c, h2, h3⟩ := h.rep j v hj
 exact ⟨h1, c, by rw [jH hs]; exact h2, Rep.mono k hb v c (V.noVia_of_single h1) h3⟩
theorem TipOK.mono {S S' : Nat → Nat → Prop} {w w' : World} {t : Tp} (hs : w'.heap[t.blk]? = w.heap[t.blk]?) (hS : ∀ o, S' t.blk o → S t.blk o) (h : TipOK S w t) : TipOK S' w' t :=
 ⟨by rw [hs]; exact h.ex, fun o ho x => h.free o ho (hS o x), h.le⟩
theorem TipOK.lt {S w t} (h : TipOK S w t) : t.blk < w.heap.size := by obtain ⟨carr, e, lo, hi, h1, _⟩ := h.ex; exact aGx h1
namespace St
variable {lim : Option Nat} {B : Nat} {F : List Nat} {S : Nat → Nat → Prop} {bl : List Nat} {vals : List (V × Value)} {H : aB} {w : World}
theorem mem_count {l : List Nat} {x : Nat} (h : x ∈ l) : 1 ≤ l.count x := List.one_le_count_iff.2 h
theorem aC0 {l : List Nat} {x : Nat} (h : 1 ≤ l.count x) : x ∈ l := List.one_le_count_iff.1 h
def held (w : World) (vals : List (V × Value)) (H : aB) (bl : List Nat) (b : Nat) : Prop := b ∈ bl ∨ b ∈ aS (aH vals) ∨ b ∈ aS (aY w H bl)
theorem held_lt (h : St lim B F S bl vals H w) {b : Nat} (hb : held w vals H bl b) : B ≤ b ∧ b < w.heap.size := by
 rcases hb with hb | hb | hb
 ·exact h.base b (.inr hb)
 ·obtain ⟨t, ht, rfl⟩ := List.mem_map.1 hb
  exact ⟨(h.tip t (.inl ht)).2, (h.tip t (.inl ht)).1.lt⟩
 ·obtain ⟨t, ht, rfl⟩ := List.mem_map.1 hb
  exact ⟨(h.tip t (.inr ht)).2, (h.tip t (.inr ht)).1.lt⟩
theorem world (h : St lim B F S bl vals H w) {S' : Nat → Nat → Prop} {w' : World} (hsz : w.heap.size ≤ w'.heap.size)
 (same : ∀ b, held w vals H bl b → w'.heap[b]? = w.heap[b]?) (k : Keeps S w S' w')
 (fresh : ∀ b o, S' b o → S b o ∨ (¬ held w vals H bl b ∧ (w'.cell? ⟨b, o, none⟩).isSome = true)) : St lim B F S' bl vals H w' := by
 have hbl : ∀ b ∈ bl, w'.heap[b]? = w.heap[b]? := fun b hb => same b (.inl hb)
 have hh := pH H bl hbl
 refine ⟨fun p hp => Rep.mono_via k (fun _ _ e => e) (fun i b o e => jH (hbl b (List.mem_of_getElem? e)) o) _ _ (h.rep p hp), h.len,
  fun i cs b hi hb => (h.obj i cs b hi hb).mono k (fun _ _ e => e) (hbl b (List.mem_of_getElem? hb)), by rw [hh]; exact h.nodup, ?_, ?_,
  fun b hb => ⟨(h.base b hb).1, Nat.lt_of_lt_of_le (h.base b hb).2 hsz⟩, h.refs, h.sep⟩
 ·rw [hh]
  intro t ht
  have hd : held w vals H bl t.blk := ht.elim (fun x => .inr (.inl (List.mem_map.2 ⟨t, x, rfl⟩))) fun x => .inr (.inr (List.mem_map.2 ⟨t, x, rfl⟩))
  refine ⟨(h.tip t ht).1.mono (same _ hd) fun o x => ?_, (h.tip t ht).2⟩
  rcases fresh _ _ x with x | x
  ·exact x
  ·exact absurd hd x.1
 ·intro b o x
  rcases fresh b o x with x | ⟨x, y⟩
  ·obtain ⟨h1, h2⟩ := h.stab b o x
   exact ⟨h1, by rw [k.cell b o x]; exact h2⟩
  ·exact ⟨fun hb => x (.inl hb), y⟩
theorem sub (h : St lim B F S bl vals H w) {vals' : List (V × Value)} (hm : ∀ p ∈ vals', p ∈ vals) (ht : ∀ t ∈ aH vals', t ∈ aH vals)
 (hc : ∀ x, (aS (aH vals')).count x ≤ (aS (aH vals)).count x) : St lim B F S bl vals' H w :=
 ⟨fun p hp => h.rep p (hm p hp), h.len, h.obj, fun x => by have := h.nodup x; have := hc x; omega, fun t k => h.tip t (k.imp (ht t) id), h.stab, h.base, h.refs, h.sep⟩
theorem drop {p : V × Value} (h : St lim B F S bl (p :: vals) H w) : St lim B F S bl vals H w :=
 h.sub (fun _ hp => List.mem_cons_of_mem _ hp) (fun t ht => List.mem_append_right _ ht) fun x => by simp only [aH, aS, List.map_append, List.count_append]; omega
theorem T4 {a b : List (V × Value)} (h : a.Perm b) : (aH a).Perm (aH b) := by
 induction h with
 | nil => exact .refl _
 | cons p _ ih => exact .append_left _ ih
 | swap p q r => simp only [aH, ← List.append_assoc]; exact .append_right _ List.perm_append_comm
 | trans _ _ ih1 ih2 => exact ih1.trans ih2
theorem perm (h : St lim B F S bl vals H w) {vals' : List (V × Value)} (hp : vals'.Perm vals) : St lim B F S bl vals' H w :=
 h.sub (fun p hm => hp.mem_iff.1 hm) (fun t ht => (T4 hp).mem_iff.1 ht) fun x => Nat.le_of_eq (((T4 hp).map Tp.blk).count_eq x)
theorem copy {p : V × Value} (h : St lim B F S bl vals H w) (hp : p ∈ vals) {v : V} (hv : ∀ S' bl' w', Rep S' bl' w' p.1 p.2 → Rep S' bl' w' v p.2) (hn : cJ v p.2 = []) : St lim B F S bl ((v, p.2) :: vals) H w := by
 have e : aH ((v, p.2) :: vals) = aH vals := by simp only [aH, hn, List.nil_append]
 refine ⟨?_, h.len, h.obj, by rw [e]; exact h.nodup, by rw [e]; exact h.tip, h.stab, h.base, h.refs, h.sep⟩
 intro q hq
 rcases List.mem_cons.1 hq with rfl | hq
 ·exact hv _ _ _ (h.rep p hp)
 ·exact h.rep q hq
theorem add0 {v : V} {c : Value} (h : St lim B F S bl vals H w) (hr : Rep S bl w v c) (hn : cJ v c = []) : St lim B F S bl ((v, c) :: vals) H w := by
 have e : aH ((v, c) :: vals) = aH vals := by simp only [aH, hn, List.nil_append]
 refine ⟨?_, h.len, h.obj, by rw [e]; exact h.nodup, by rw [e]; exact h.tip, h.stab, h.base, h.refs, h.sep⟩
 intro q hq
 rcases List.mem_cons.1 hq with rfl | hq
 ·exact hr
 ·exact h.rep q hq
theorem rem {us : List (V × Value)} (h : St lim B F S bl (us ++ vals) H w) : St lim B (F ++ aS (aH us)) S bl vals H w := by
 refine ⟨fun p hp => h.rep p (List.mem_append_right _ hp), h.len, h.obj, fun x => ?_, fun t ht => h.tip t (ht.imp (fun y => by rw [dY]; exact List.mem_append_right _ y) id), h.stab, ?_, h.refs, h.sep⟩
 ·have := h.nodup x
  rw [dY] at this
  simp only [aS, List.map_append, List.count_append] at this ⊢
  omega
 ·intro b hb
  rcases hb with hb | hb
  ·rcases List.mem_append.1 hb with hb | hb
   ·exact h.base b (.inl hb)
   ·exact h.held_lt (.inr (.inl (by rw [dY]; simp only [aS, List.map_append]; exact List.mem_append_left _ hb)))
  ·exact h.base b (.inr hb)
theorem add {us : List (V × Value)} (h : St lim B (F ++ aS (aH us)) S bl vals H w) (hr : ∀ p ∈ us, Rep S bl w p.1 p.2) (ht : ∀ t ∈ aH us, TipOK S w t) : St lim B F S bl (us ++ vals) H w := by
 refine ⟨fun p hp => (List.mem_append.1 hp).elim (hr p) (h.rep p), h.len, h.obj, fun x => ?_, ?_, h.stab, fun b hb => h.base b (hb.imp (List.mem_append_left _) id), h.refs, h.sep⟩
 ·have := h.nodup x
  rw [dY]
  simp only [aS, List.map_append, List.count_append] at this ⊢
  omega
 ·intro t ht'
  rw [dY] at ht'
  rcases ht' with ht' | ht'
  ·rcases List.mem_append.1 ht' with ht' | ht'
   ·exact ⟨ht t ht', (h.base t.blk (.inl (List.mem_append_right _ (List.mem_map.2 ⟨t, ht', rfl⟩)))).1⟩
   ·exact h.tip t (.inl ht')
  ·exact h.tip t (.inr ht')
theorem unframe {F' : List Nat} (h : St lim B F' S bl vals H w) (hc : ∀ x, F.count x ≤ F'.count x) : St lim B F S bl vals H w := by
 refine ⟨h.rep, h.len, h.obj, fun x => by have := h.nodup x; have := hc x; omega, h.tip, h.stab, fun b hb => h.base b (hb.imp (fun y => ?_) id), h.refs, h.sep⟩
 exact aC0 (Nat.le_trans (mem_count y) (hc b))
end St
end Go.Abs
