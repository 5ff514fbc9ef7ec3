/-
  The executor of AbsA: more fuel tells the same; its limit `Call`, `EX`; the unfolding equations.
-/
import Derived.Test.YtcfefgeheibadaaAbsA
namespace Go.Abs

def Le {α : Type} (a b : Option α) : Prop := ∀ x, a = some x → b = some x
theorem Le.refl {α : Type} (a : Option α) : Le a a := fun _ h => h
theorem Le.trans {α : Type} {a b c : Option α} (h : Le a b) (k : Le b c) : Le a c := fun x e => k x (h x e)
theorem Le.none {α : Type} (b : Option α) : Le none b := fun _ h => by cases h
theorem Le.bind {α β : Type} {a b : Option α} {f g : α → Option β} (h : Le a b) (k : ∀ x, Le (f x) (g x)) : Le (a.bind f) (b.bind g) := by
  intro y e
  cases ha : a with
  | none => rw [ha] at e; cases e
  | some x => rw [ha] at e; rw [h x ha]; exact k x y e
theorem Le.map {α β : Type} {a b : Option α} {f : α → β} (h : Le a b) : Le (a.map f) (b.map f) := by
  intro y e
  cases ha : a with
  | none => rw [ha] at e; cases e
  | some x => rw [ha] at e; rw [h x ha]; exact e

def RLe (T T' : Oracle) : Prop := ∀ (s : Option Nat) (f : FuncId) (args : List V) (H : Heap), Le (T s f args H) (T' s f args H)
def OLe (T T' : Orc) : Prop := RLe T.run T'.run ∧ T.pu = T'.pu
theorem Le.ite {α : Type} {p : Prop} [Decidable p] {a b c d : Option α} (h : Le a b) (k : Le c d) : Le (if p then a else c) (if p then b else d) := by
  split
  · exact h
  · exact k

theorem step_mono {T T' : Orc} (h : OLe T T') (s : Option Nat) (i : I) (e : Env) (H : Heap) : Le (step T s i e H) (step T' s i e H) := by
  cases i with
  | call f xs nw => simp only [step, h.2]; exact Le.bind (Le.refl _) fun r => Le.ite (Le.map (Le.bind (h.1 s f r.1 H) fun _ => Le.refl _)) (Le.refl _)
  | cav x xs =>
    simp only [step, h.2]
    refine Le.bind (Le.refl _) fun p => ?_
    split
    · exact Le.bind (Le.refl _) fun r => Le.ite (Le.map (h.1 _ _ _ _)) (Le.refl _)
    · exact Le.none _
  | cam tbl x xs =>
    simp only [step, h.2]
    refine Le.bind (Le.refl _) fun p => ?_
    split
    · split
      · exact Le.bind (Le.refl _) fun r => Le.ite (Le.map (h.1 _ _ _ _)) (Le.refl _)
      · exact Le.none _
    · exact Le.none _
  | _ => exact Le.refl _

theorem op1_mono {T T' : Orc} (h : OLe T T') (s : Option Nat) (o) (e : Env) (H : Heap) : Le (op1 T s o e H) (op1 T' s o e H) := by
  unfold op1
  split
  · exact Le.map (step_mono h s _ e H)
  · split
    · split
      · exact Le.map (step_mono h s _ e H)
      · exact Le.refl _
    · exact Le.refl _
    · exact Le.refl _

theorem rops_mono {T T' : Orc} (h : OLe T T') (s : Option Nat) : ∀ ops e H, Le (rops T s ops e H) (rops T' s ops e H)
  | [], e, H => Le.refl _
  | o :: r, e, H => Le.bind (op1_mono h s o e H) fun q => rops_mono h s r q.1 q.2

theorem loopN_mono {s : Option Nat} {b b' : Env → Heap → Option Out} (h : ∀ e H, Le (b e H) (b' e H)) : ∀ {n n' : Nat}, n ≤ n' → ∀ e H, Le (loopN s b n e H) (loopN s b' n' e H)
  | 0, _, _, e, H => Le.none _
  | n + 1, 0, hn, _, _ => by omega
  | n + 1, n' + 1, hn, e, H => by
    unfold loopN
    refine Le.bind (h e H) fun r => ?_
    split
    · exact loopN_mono h (by omega) _ _
    · exact Le.refl _

theorem exL_mono {T T' : Orc} (h : OLe T T') (s : Option Nat) {n n' : Nat} (hn : n ≤ n') : ∀ c e H, Le (exL T s n c e H) (exL T' s n' c e H)
  | .nop, e, H => Le.refl _
  | .reg keep conf free fps ops, e, H => Le.ite (Le.refl _) (Le.bind (rops_mono h s ops e H) fun _ => Le.refl _)
  | .seq a b, e, H => by
    unfold exL
    refine Le.bind (exL_mono h s hn a e H) fun r => ?_
    split
    · exact exL_mono h s hn b _ _
    · exact Le.refl _
  | .cnd x a b, e, H => by
    unfold exL
    refine Le.bind (Le.refl _) fun p => ?_
    split
    · split
      · exact exL_mono h s hn a _ _
      · exact exL_mono h s hn b _ _
    · exact Le.refl _
  | .blk id c, e, H => Le.map (exL_mono h s hn c e H)
  | .loop c, e, H => loopN_mono (fun e H => exL_mono h s hn c e H) hn e H
  | .exit id, e, H => Le.refl _
  | .ret, e, H => Le.refl _

theorem callF_step (T : Tab) : ∀ n, RLe (callF T n) (callF T (n + 1))
  | 0 => fun _ _ _ _ => Le.none _
  | n + 1 => by
    intro s f args H
    have ih := callF_step T n
    rw [callF, callF]
    split
    · exact Le.refl _
    · split
      · exact Le.refl _
      · split
        · refine Le.bind (exL_mono (T := ⟨callF T n, T.pu⟩) (T' := ⟨callF T (n + 1), T.pu⟩) ⟨ih, rfl⟩ _ (Nat.le_succ n) _ _ _) fun r => ?_
          exact Le.refl _
        · exact Le.refl _

theorem callF_mono (T : Tab) {n n' : Nat} (h : n ≤ n') : RLe (callF T n) (callF T n') := by
  induction h with
  | refl => exact fun _ _ _ _ => Le.refl _
  | step _ ih => exact fun s f a H => (ih s f a H).trans (callF_step T _ s f a H)

/-- The fellows with fuel, and their limit. -/
abbrev orcF (T : Tab) (n : Nat) : Orc := ⟨callF T n, T.pu⟩
theorem orcF_mono (T : Tab) {n n' : Nat} (h : n ≤ n') : OLe (orcF T n) (orcF T n') := ⟨callF_mono T h, rfl⟩

open Classical in
/-- The limit of a chain. -/
noncomputable def lim {α : Type} (g : Nat → Option α) : Option α := if h : ∃ x n, g n = some x then some h.choose else none
theorem lim_iff {α : Type} {g : Nat → Option α} (hm : ∀ n n', n ≤ n' → Le (g n) (g n')) {x : α} : lim g = some x ↔ ∃ n, g n = some x := by
  unfold lim
  split
  · rename_i h
    obtain ⟨m, hm'⟩ := h.choose_spec
    constructor
    · intro e
      cases e
      exact ⟨m, hm'⟩
    · rintro ⟨n, hn⟩
      have a := hm m (max m n) (Nat.le_max_left ..) _ hm'
      have b := hm n (max m n) (Nat.le_max_right ..) _ hn
      exact a.symm.trans b
  · rename_i h
    constructor
    · intro e; cases e
    · rintro ⟨n, hn⟩; exact absurd ⟨x, n, hn⟩ h

noncomputable def Call (T : Tab) : Oracle := fun s f args H => lim fun n => callF T n s f args H
theorem Call_iff {T : Tab} {s f args H x} : Call T s f args H = some x ↔ ∃ n, callF T n s f args H = some x :=
  lim_iff fun n n' h => callF_mono T h s f args H
noncomputable abbrev orc (T : Tab) : Orc := ⟨Call T, T.pu⟩
theorem orcF_le (T : Tab) (n : Nat) : OLe (orcF T n) (orc T) := ⟨fun _ _ _ _ _ e => Call_iff.2 ⟨n, e⟩, rfl⟩

noncomputable def EX (T : Tab) (s : Option Nat) (c : C) (e : Env) (H : Heap) : Option Out := lim fun n => exL (orcF T n) s n c e H
theorem EX_iff {T : Tab} {s c e H x} : EX T s c e H = some x ↔ ∃ n, exL (orcF T n) s n c e H = some x :=
  lim_iff fun n n' h => exL_mono (orcF_mono T h) s h c e H

theorem ext_opt {α : Type} {a b : Option α} (h : ∀ x, a = some x ↔ b = some x) : a = b := by
  cases a with
  | none => cases b with
    | none => rfl
    | some y => exact ((h y).2 rfl)
  | some x => exact ((h x).1 rfl).symm

theorem step_lim (T : Tab) {s i e H x} : step (orc T) s i e H = some x ↔ ∃ n, step (orcF T n) s i e H = some x := by
  constructor
  · cases i with
    | call f xs nw =>
      intro h
      simp only [step, Option.bind_eq_some_iff] at h
      obtain ⟨r, hr, h⟩ := h
      split at h
      · rename_i hp
        obtain ⟨q, hq, rfl⟩ := Option.map_eq_some_iff.1 h
        obtain ⟨hq, hk⟩ := chkN_run hq
        obtain ⟨n, hn⟩ := Call_iff.1 hq
        exact ⟨n, by simp only [step, hr, Option.bind_some, if_pos hp, chkN_of hn hk, Option.map_some]⟩
      · cases h
    | cav x xs =>
      intro h
      simp only [step, Option.bind_eq_some_iff] at h
      obtain ⟨⟨v, e1⟩, hp, h⟩ := h
      cases v <;> try cases h
      simp only [Option.bind_eq_some_iff] at h
      obtain ⟨r, hr, h⟩ := h
      split at h
      · rename_i hp'
        obtain ⟨q, hq, rfl⟩ := Option.map_eq_some_iff.1 h
        obtain ⟨n, hn⟩ := Call_iff.1 hq
        exact ⟨n, by simp only [step, hp, Option.bind_some, hr, if_pos hp', hn, Option.map_some]⟩
      · cases h
    | cam tbl x xs =>
      intro h
      simp only [step, Option.bind_eq_some_iff] at h
      obtain ⟨⟨v, e1⟩, hp, h⟩ := h
      cases v <;> try cases h
      simp only at h
      split at h
      · rename_i f hl
        simp only [Option.bind_eq_some_iff] at h
        obtain ⟨r, hr, h⟩ := h
        split at h
        · rename_i hp'
          obtain ⟨q, hq, rfl⟩ := Option.map_eq_some_iff.1 h
          obtain ⟨n, hn⟩ := Call_iff.1 hq
          exact ⟨n, by simp only [step, hp, Option.bind_some, hl, hr, if_pos hp', hn, Option.map_some]⟩
        · cases h
      · cases h
    | mv x => exact fun h => ⟨0, h⟩
    | op o xs => exact fun h => ⟨0, h⟩
    | pick c a b => exact fun h => ⟨0, h⟩
    | exm i t => exact fun h => ⟨0, h⟩
  · rintro ⟨n, hn⟩
    exact step_mono (orcF_le T n) s i e H x hn

theorem op1_lim (T : Tab) {s o e H x} : op1 (orc T) s o e H = some x ↔ ∃ n, op1 (orcF T n) s o e H = some x := by
  constructor
  · obtain ⟨d, g, i⟩ := o
    cases g with
    | none =>
      intro h
      obtain ⟨r, hr, rfl⟩ := Option.map_eq_some_iff.1 (show (step (orc T) s i e H).map _ = some x from h)
      obtain ⟨n, hn⟩ := (step_lim T).1 hr
      exact ⟨n, by simp only [op1, hn]; rfl⟩
    | some gw =>
      obtain ⟨g, want⟩ := gw
      intro h
      simp only [op1] at h ⊢
      cases hc : eget e g with
      | none => rw [hc] at h; cases h
      | some v =>
        rw [hc] at h
        cases v <;> try cases h
        case tup.refl => exact ⟨0, rfl⟩
        rename_i c
        simp only at h ⊢
        split at h
        · rename_i hw
          obtain ⟨r, hr, rfl⟩ := Option.map_eq_some_iff.1 h
          obtain ⟨n, hn⟩ := (step_lim T).1 hr
          exact ⟨n, by rw [if_pos hw, hn]; rfl⟩
        · rename_i hw
          exact ⟨0, by rw [if_neg hw]; exact h⟩
  · rintro ⟨n, hn⟩
    exact op1_mono (orcF_le T n) s o e H x hn

theorem rops_lim (T : Tab) {s} : ∀ {ops e H x}, rops (orc T) s ops e H = some x ↔ ∃ n, rops (orcF T n) s ops e H = some x
  | [], e, H, x => ⟨fun h => ⟨0, h⟩, fun ⟨_, h⟩ => h⟩
  | o :: r, e, H, x => by
    constructor
    · intro h
      simp only [rops, Option.bind_eq_some_iff] at h
      obtain ⟨q, hq, h⟩ := h
      obtain ⟨n, hn⟩ := (op1_lim T).1 hq
      obtain ⟨m, hm⟩ := (rops_lim T (s := s)).1 h
      refine ⟨max n m, ?_⟩
      have h1 := op1_mono (orcF_mono T (Nat.le_max_left n m)) s o e H _ hn
      have h2 := rops_mono (orcF_mono T (Nat.le_max_right n m)) s r _ _ _ hm
      simp [rops, h1, h2]
    · rintro ⟨n, hn⟩
      exact rops_mono (orcF_le T n) s _ e H x hn

theorem EX_nop (T : Tab) (s e H) : EX T s .nop e H = some (.nrm, e, H) := EX_iff.2 ⟨0, rfl⟩
theorem EX_exit (T : Tab) (s e H id) : EX T s (.exit id) e H = some (.exit id, e, H) := EX_iff.2 ⟨0, rfl⟩
theorem EX_ret (T : Tab) (s e H) : EX T s .ret e H = some (.ret, e, H) := EX_iff.2 ⟨0, rfl⟩
theorem EX_reg (T : Tab) (s keep conf free fps ops e H) : EX T s (.reg keep conf free fps ops) e H = if !calm e then none else (rops (orc T) s ops e H).bind fun r => if confOK conf r.1 && freeOK free r.1 && fpsOK fps r.1 then some (.nrm, ekeep keep r.1, r.2) else none := by
  refine ext_opt fun x => EX_iff.trans ?_
  simp only [exL]
  by_cases hc : (!calm e) = true
  · rw [if_pos hc]
    exact ⟨fun ⟨n, h⟩ => (by rw [if_pos hc] at h; cases h), fun h => (by cases h)⟩
  simp only [if_neg hc, Option.bind_eq_some_iff]
  constructor
  · rintro ⟨n, r, hr, h⟩; exact ⟨r, (rops_lim T).2 ⟨n, hr⟩, h⟩
  · rintro ⟨r, hr, h⟩; obtain ⟨n, hn⟩ := (rops_lim T).1 hr; exact ⟨n, r, hn, h⟩
theorem EX_seq (T : Tab) (s a b e H) : EX T s (.seq a b) e H = (EX T s a e H).bind fun r => match r.1 with
    | .nrm => EX T s b r.2.1 r.2.2
    | x => some (x, r.2.1, r.2.2) := by
  refine ext_opt fun x => EX_iff.trans ?_
  simp only [exL, Option.bind_eq_some_iff]
  constructor
  · rintro ⟨n, ⟨y, e1, H1⟩, hr, h⟩
    refine ⟨⟨y, e1, H1⟩, EX_iff.2 ⟨n, hr⟩, ?_⟩
    cases y with
    | nrm => exact EX_iff.2 ⟨n, h⟩
    | _ => exact h
  · rintro ⟨⟨y, e1, H1⟩, hr, h⟩
    obtain ⟨n, hn⟩ := EX_iff.1 hr
    cases y with
    | nrm =>
      obtain ⟨m, hm⟩ := EX_iff.1 h
      exact ⟨max n m, _, exL_mono (orcF_mono T (Nat.le_max_left n m)) s (Nat.le_max_left n m) _ _ _ _ hn,
        exL_mono (orcF_mono T (Nat.le_max_right n m)) s (Nat.le_max_right n m) _ _ _ _ hm⟩
    | _ => exact ⟨n, _, hn, h⟩
theorem EX_cnd (T : Tab) (s x a b e H) : EX T s (.cnd x a b) e H = (evX x e).bind fun p => match p.1 with
    | .bool t => if t then EX T s a p.2 H else EX T s b p.2 H
    | _ => none := by
  refine ext_opt fun y => EX_iff.trans ?_
  simp only [exL, Option.bind_eq_some_iff]
  constructor
  · rintro ⟨n, ⟨v, e1⟩, hp, h⟩
    refine ⟨⟨v, e1⟩, hp, ?_⟩
    cases v <;> try cases h
    rename_i t
    cases t
    · exact EX_iff.2 ⟨n, h⟩
    · exact EX_iff.2 ⟨n, h⟩
  · rintro ⟨⟨v, e1⟩, hp, h⟩
    cases v <;> try cases h
    rename_i t
    cases t
    · obtain ⟨n, hn⟩ := EX_iff.1 h
      exact ⟨n, _, hp, hn⟩
    · obtain ⟨n, hn⟩ := EX_iff.1 h
      exact ⟨n, _, hp, hn⟩
theorem EX_blk (T : Tab) (s id c e H) : EX T s (.blk id c) e H = (EX T s c e H).map fun r => match r.1 with
    | .exit j => if j = id then (.nrm, r.2.1, r.2.2) else (.exit j, r.2.1, r.2.2)
    | x => (x, r.2.1, r.2.2) := by
  refine ext_opt fun x => EX_iff.trans ?_
  simp only [exL, Option.map_eq_some_iff]
  constructor
  · rintro ⟨n, r, hr, rfl⟩; exact ⟨r, EX_iff.2 ⟨n, hr⟩, rfl⟩
  · rintro ⟨r, hr, rfl⟩; obtain ⟨n, hn⟩ := EX_iff.1 hr; exact ⟨n, r, hn, rfl⟩
theorem EX_loop (T : Tab) (s c e H) : EX T s (.loop c) e H = (EX T s c e H).bind fun r => match r.1 with
    | .nrm => EX T s (.loop c) r.2.1 (trim s H r.2.1 r.2.2)
    | x => some (x, r.2.1, r.2.2) := by
  refine ext_opt fun x => EX_iff.trans ?_
  simp only [exL, Option.bind_eq_some_iff]
  constructor
  · rintro ⟨n, h⟩
    cases n with
    | zero => cases h
    | succ n =>
      simp only [loopN, Option.bind_eq_some_iff] at h
      obtain ⟨⟨y, e1, H1⟩, hr, h⟩ := h
      refine ⟨⟨y, e1, H1⟩, EX_iff.2 ⟨_, hr⟩, ?_⟩
      cases y with
      | nrm => exact EX_iff.2 ⟨n + 1, loopN_mono (fun _ _ => Le.refl _) (Nat.le_succ n) _ _ _ h⟩
      | _ => exact h
  · rintro ⟨⟨y, e1, H1⟩, hr, h⟩
    obtain ⟨n, hn⟩ := EX_iff.1 hr
    cases y with
    | nrm =>
      obtain ⟨m, hm⟩ := EX_iff.1 h
      refine ⟨max n m + 1, ?_⟩
      simp only [loopN, Option.bind_eq_some_iff]
      have l1 : n ≤ max n m + 1 := by omega
      have l2 : m ≤ max n m + 1 := by omega
      exact ⟨_, exL_mono (orcF_mono T l1) s l1 _ _ _ _ hn, loopN_mono (fun e H => exL_mono (orcF_mono T l2) s l2 c e H) (Nat.le_max_right n m) _ _ _ hm⟩
    | _ =>
      refine ⟨n + 1, ?_⟩
      simp only [loopN, Option.bind_eq_some_iff]
      exact ⟨_, exL_mono (orcF_mono T (Nat.le_succ n)) s (Nat.le_succ n) _ _ _ _ hn, h⟩

/-- What a call of a function with code comes to. -/
theorem Call_code {T : Tab} {s : Option Nat} {f : FuncId} {args : List V} {H : Heap} {cf : CF} (hp : T.prim f = none) (hc : T.code f = some cf) (ha : args.length = cf.np) :
    Call T s f args H = (EX T (inner cf.mode s (base cf.mode args H)) cf.body (initEnv 0 args) (base cf.mode args H)).bind fun r => match r.1 with
      | .exit _ => none
      | _ => (resAll r.2.1 r.2.2 cf.res).bind fun vs => finish cf.mode s H (base cf.mode args H) vs r.2.2 := by
  refine ext_opt fun x => Call_iff.trans ?_
  simp only [Option.bind_eq_some_iff]
  constructor
  · rintro ⟨n, h⟩
    cases n with
    | zero => cases h
    | succ n =>
      simp only [callF, hp, hc, ha, if_true, Option.bind_eq_some_iff] at h
      obtain ⟨r, hr, h⟩ := h
      exact ⟨r, EX_iff.2 ⟨n, hr⟩, h⟩
  · rintro ⟨r, hr, h⟩
    obtain ⟨n, hn⟩ := EX_iff.1 hr
    refine ⟨n + 1, ?_⟩
    simp only [callF, hp, hc, ha, if_true, Option.bind_eq_some_iff]
    exact ⟨r, hn, h⟩
theorem Call_prim {T : Tab} {s : Option Nat} {f : FuncId} {args : List V} {H : Heap} {p : Prim} (hp : T.prim f = some p) : Call T s f args H = (p args).bind fun v => if v.noVia then some (v, H) else none := by
  refine ext_opt fun x => Call_iff.trans ?_
  constructor
  · rintro ⟨n, h⟩
    cases n with
    | zero => cases h
    | succ n => simpa only [callF, hp] using h
  · intro h; exact ⟨1, by simpa only [callF, hp] using h⟩

end Go.Abs
