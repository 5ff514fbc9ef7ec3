/-
  Loops once more: the environment at a loop's head as it was but for what turns; the end of a round whether or not the heap is cut.
-/
import Derived.Test.YtcfefgeheibadaaAbsE5
import Derived.Test.YtcfefgeheibadaaAbsU
namespace Go.Abs
theorem getq {α : Type} {l : List α} {i : Nat} (h : i < l.length) : ∃ x, l[i]? = some x := ⟨l[i], List.getElem?_eq_getElem h⟩
theorem take_succ' {α : Type} {l : List α} {i : Nat} {x : α} (h : l[i]? = some x) : l.take i ++ [x] = l.take (i + 1) := by rw [List.take_add_one, h]; rfl

/-- What stands under a number, if anything. -/
def lk : Env → Nat → Option V
  | [], _ => none
  | (t, w) :: r, s => bif t == s then some w else lk r s
/-- An environment in which some values are others. -/
def upd (vs : Env) : Env → Env
  | [] => []
  | (s, v) :: e => (s, (lk vs s).getD v) :: upd vs e
theorem upd_to {β : Type} {T : Tab} {s : Option Nat} {c : C} {e0 e vs : Env} {H : Heap} {κ : Out → Option β} {Y : Option β → Prop} (he : upd vs e0 = e) (h : Ev (R T s (.loop c) e H κ) Y) : Ev (R T s (.loop c) (upd vs e0) H κ) Y := by rw [he]; exact h

/-- A loop that counts up; what turns is told, all else stands. -/
theorem lp_v {β σ : Type} {T : Tab} {s : Option Nat} {c : C} {κ : Out → Option β} {Y : Option β → Prop} {e0 : Env} {H0 : Heap} (n : Nat) (vs : Nat → σ → Env) (Hs : Nat → σ → Heap) (P : Nat → σ → Prop)
    (step : ∀ i t, i < n → P i t → (∀ t', P (i + 1) t' → Ev (R T s (.loop c) (upd (vs (i + 1) t') e0) (Hs (i + 1) t') κ) Y) → Ev (R T s (.loop c) (upd (vs i t) e0) (Hs i t) κ) Y)
    (fin : ∀ t, P n t → Ev (R T s (.loop c) (upd (vs n t) e0) (Hs n t) κ) Y) (t : σ) (h : P 0 t) (he : upd (vs 0 t) e0 = e0 := by first | rfl | (simp only [enL_nil, List.length_nil]; rfl)) (hH : Hs 0 t = H0 := by first | rfl | (simp only [enL_nil, List.length_nil]; rfl)) : Ev (R T s (.loop c) e0 H0 κ) Y :=
  lp_up n (fun i t => upd (vs i t) e0) Hs P step fin t h he hH

theorem keptL_kb {m : Nat} : ∀ {G H : Heap}, keptL m G H = true → ∀ (i : Nat) a b, G[i]? = some a → H[i]? = some b → a = b ∨ V.rbL m b = true
  | [], _, _, i, a, b, h1, _ => by simp at h1
  | _ :: _, [], _, i, a, b, _, h2 => by simp at h2
  | g :: G, x :: H, h, i, a, b, h1, h2 => by
    simp only [keptL, Bool.and_eq_true, Bool.or_eq_true] at h
    cases i with
    | zero =>
      simp only [List.getElem?_cons_zero, Option.some.injEq] at h1 h2
      subst h1 h2
      rcases h.1 with k | k
      · exact .inl (St.eqL_eq _ _ k)
      · exact .inr k
    | succ i => exact keptL_kb h.2 i a b (by simpa using h1) (by simpa using h2)
theorem kept_kb {l : Nat} {G H : Heap} (h : keptB l G H = true) : KB l G H := fun i a b hi h1 h2 =>
  keptL_kb h (i - l) a b (by rw [List.getElem?_drop, Nat.add_sub_cancel' hi]; exact h1) (by rw [List.getElem?_drop, Nat.add_sub_cancel' hi]; exact h2)
/-- The end of a round of which nobody knows whether it is cut. -/
theorem y_lpA {β : Type} {T : Tab} {l : Nat} {c : C} {e : Env} {G H : Heap} {κ : Out → Option β} {Y : Option β → Prop} (h : ∀ H1, (H1 = H ∨ (H1 = H.take G.length ∧ G.length < H.length ∧ e.all (fun p => p.2.rb G.length) = true ∧ KB l G H)) → Ev (R T (some l) (.loop c) e H1 κ) Y) : Ev (kLp T (some l) c G κ (.nrm, e, H)) Y := by
  refine k_lp_nrm (H1 := trim (some l) G e H) rfl (h _ ?_)
  show (if l ≤ G.length ∧ G.length < H.length ∧ e.all (fun p => p.2.rb G.length) = true ∧ keptB l G H = true then H.take G.length else H) = H ∨ _
  by_cases k : l ≤ G.length ∧ G.length < H.length ∧ e.all (fun p => p.2.rb G.length) = true ∧ keptB l G H = true
  · refine .inr ⟨?_, k.2.1, k.2.2.1, kept_kb k.2.2.2⟩
    show (if _ then _ else _) = _
    rw [if_pos k]
  · exact .inl (if_neg k)
end Go.Abs
