/-
  Two rows of a region that have nothing to do with one another may change places.
-/
import Derived.Test.YtcfefgeheibadaaAbsH
namespace Go.Abs

/-! ### What each kind of row has to do with the heap -/
theorem cls_op {pure : FuncId → Bool} {o : O} {xs : List X} : cls pure (.op o xs) = match o with
    | .ld | .ldn _ | .lv | .app .. => .R
    | .box _ | .alc _ | .mks .. => .A
    | .st | .stn _ => .W
    | .apv .. | .apg .. | .clr .. => .U
    | _ => .S := rfl
theorem map_H {α : Type} {x : Option V} {H : Heap} {r : V} {H' : Heap} (h : x.map (·, H) = some (r, H')) : x = some r ∧ H' = H := by
  obtain ⟨u, hu, e⟩ := Option.map_eq_some_iff.1 h
  cases e
  exact ⟨hu, rfl⟩
theorem apply_S {pure : FuncId → Bool} {s : Option Nat} {o : O} {xs : List X} {vs : List V} {H H' : Heap} {r : V} (hc : cls pure (.op o xs) = .S) (h : apply s o vs H = some (r, H')) : H' = H ∧ ∀ G, apply s o vs G = some (r, G) := by
  rw [cls_op] at hc
  cases o <;> simp only at hc <;> try cases hc
  all_goals simp only [apply] at h ⊢
  all_goals first
    | (cases h; done)
    | (obtain ⟨h1, h2⟩ := map_H (α := V) h; exact ⟨h2, fun G => by rw [h1]; rfl⟩)
    | (obtain ⟨u, hu, e⟩ := Option.map_eq_some_iff.1 h; cases e; exact ⟨rfl, fun G => by rw [hu]; rfl⟩)
    | (split at h
       · rename_i hh
         first
           | (cases h; exact ⟨rfl, fun G => by rw [if_pos hh]⟩)
           | (obtain ⟨u, hu, e⟩ := Option.map_eq_some_iff.1 h; cases e; exact ⟨rfl, fun G => by rw [if_pos hh, hu]; rfl⟩)
       · cases h)
    | (cases h; exact ⟨rfl, fun G => rfl⟩)
theorem apply_R {pure : FuncId → Bool} {s : Option Nat} {o : O} {xs : List X} {vs : List V} {H H' : Heap} {r : V} (hc : cls pure (.op o xs) = .R) (h : apply s o vs H = some (r, H')) : H' = H := by
  rw [cls_op] at hc
  cases o <;> simp only at hc <;> try cases hc
  all_goals simp only [apply] at h
  all_goals exact (map_H (α := V) h).2
theorem apply_A {pure : FuncId → Bool} {s : Option Nat} {o : O} {xs : List X} {vs : List V} {H H' : Heap} {r : V} (hc : cls pure (.op o xs) = .A) (h : apply s o vs H = some (r, H')) : ∃ x, H' = H ++ [x] := by
  rw [cls_op] at hc
  cases o <;> simp only at hc <;> try cases hc
  · simp only [apply] at h
    unfold aBox at h
    split at h
    · split at h
      · cases h; exact ⟨_, rfl⟩
      · cases h
    · cases h
  · simp only [apply] at h
    split at h
    · cases h; exact ⟨_, rfl⟩
    · cases h
  · simp only [apply] at h
    unfold aMks at h
    split at h
    · split at h
      · cases h; exact ⟨_, rfl⟩
      · cases h
    · cases h

theorem hcells_append {H X : Heap} {id o n : Nat} {cs : List V} (h : hcells H id o n = some cs) : hcells (H ++ X) id o n = some cs := by
  unfold hcells at h ⊢
  obtain ⟨ds, h1, h2⟩ := Option.bind_eq_some_iff.1 h
  have hlt : id < H.length := (List.getElem?_eq_some_iff.1 h1).1
  rw [List.getElem?_append_left hlt, h1]
  exact h2
theorem hget_append {H X : Heap} {id o : Nat} {v : V} (h : hget H id o = some v) : hget (H ++ X) id o = some v := by
  unfold hget at h ⊢
  obtain ⟨ds, h1, h2⟩ := Option.bind_eq_some_iff.1 h
  have hlt : id < H.length := (List.getElem?_eq_some_iff.1 h1).1
  rw [List.getElem?_append_left hlt, h1]
  exact h2
theorem tail_append {sz : Nat} {x : V} {H X : Heap} {q : Nat × List V} (h : tail sz x H = some q) : tail sz x (H ++ X) = some q := by
  unfold tail at h ⊢
  split at h
  · exact h
  · obtain ⟨ds, h1, h2⟩ := Option.map_eq_some_iff.1 h
    simp only [hcells_append h1, Option.map_some, h2]
  · exact h
  · exact h
  · cases h
theorem appendTo_append {sz bytes : Nat} {s x r : V} {H X : Heap} (h : appendTo sz bytes s x H = some r) : appendTo sz bytes s x (H ++ X) = some r := by
  unfold appendTo at h ⊢
  split at h
  · split at h
    · rename_i hh
      obtain ⟨q, h1, h2⟩ := Option.bind_eq_some_iff.1 h
      rw [if_pos hh, tail_append h1]
      exact h2
    · cases h
  · cases h
theorem apply_R_app {pure : FuncId → Bool} {s : Option Nat} {o : O} {xs : List X} {vs : List V} {H H' X : Heap} {r : V} (hc : cls pure (.op o xs) = .R) (h : apply s o vs H = some (r, H')) : apply s o vs (H ++ X) = some (r, H ++ X) := by
  rw [cls_op] at hc
  cases o <;> simp only at hc <;> try cases hc
  all_goals simp only [apply] at h ⊢
  all_goals obtain ⟨h1, h2⟩ := map_H (α := V) h
  · unfold aLd at h1 ⊢
    split at h1
    · obtain ⟨u, hu, e⟩ := Option.map_eq_some_iff.1 h1
      simp only [hget_append hu, Option.map_some, e]
    · simp only [h1, Option.map_some]
    · cases h1
  · unfold aLdn at h1 ⊢
    split at h1
    · obtain ⟨u, hu, e⟩ := Option.map_eq_some_iff.1 h1
      simp only [hcells_append hu, Option.map_some, e]
    · simp only [h1, Option.map_some]
    · cases h1
  · unfold aLv at h1 ⊢
    split at h1
    · obtain ⟨u, hu, e⟩ := Option.map_eq_some_iff.1 h1
      simp only [hget_append hu, Option.map_some, e]
    · simp only [h1, Option.map_some]
    · cases h1
  · unfold aApp at h1 ⊢
    split at h1
    · simp only [appendTo_append h1, Option.map_some]
    · cases h1

/-- A load at a place whose cells are the same. -/
def SameRd (e : Env) (t n : Nat) (H G : Heap) : Prop := ∀ id o, eget e t = some (.ptr id o) → hcells G id o n = hcells H id o n
theorem hget_hcells (H : Heap) (id o : Nat) : hget H id o = (hcells H id o 1).bind (·[0]?) := by
  unfold hget hcells
  cases h : H[id]? with
  | none => rfl
  | some cs =>
    simp only [Option.bind_some]
    by_cases hl : o + 1 ≤ cs.length
    · rw [if_pos hl, Option.bind_some, List.getElem?_take, if_pos (by omega), List.getElem?_drop, Nat.add_zero]
    · rw [if_neg hl, Option.bind_none]
      exact List.getElem?_eq_none (by omega)
theorem dis_ptr {u : V} {id o : Nat} (h : u.dis = .ptr id o) : u = .ptr id o := by cases u <;> first | exact h | cases h
theorem step_rd {pure : FuncId → Bool} {T : Orc} {s : Option Nat} {i : I} {t n : Nat} {e e' : Env} {H H' G : Heap} {v : V} (hc : cls pure i = .R) (hp : place i = some (t, n)) (h : step T s i e H = some (v, e', H')) (hs : SameRd e t n H G) :
    step T s i e G = some (v, e', G) := by
  cases i <;> try (simp [cls] at hc; done)
  case call f xs nw => simp only [cls] at hc; split at hc <;> cases hc
  rename_i o xs
  obtain ⟨rfl, hk⟩ : xs = [.t t] ∧ (o = .ld ∧ n = 1 ∨ o = .lv ∧ n = 1 ∨ o = .ldn n) := by
    rw [cls_op] at hc
    unfold place at hp
    split at hp <;> simp_all
  simp only [step, evs, evX, Option.bind_eq_some_iff, Option.map_eq_some_iff] at h
  obtain ⟨⟨vs, e1⟩, ⟨q, ⟨u, hu, rfl⟩, ⟨vs', e2⟩, h1, h2⟩, h3⟩ := h
  cases h1
  cases h2
  have hw : o.writes = false := by rcases hk with ⟨rfl, _⟩ | ⟨rfl, _⟩ | rfl <;> rfl
  rw [hw] at h3
  simp only [Bool.not_false, Bool.true_or, if_true] at h3
  obtain ⟨⟨r, K⟩, h4, h5⟩ := Option.map_eq_some_iff.1 h3
  cases h5
  simp only [step, evs, evX, hu, Option.map_some, Option.bind_some, hw, Bool.not_false, Bool.true_or, if_true]
  have key : apply s o [u.dis] G = some (r, G) := by
    rcases hk with ⟨rfl, rfl⟩ | ⟨rfl, rfl⟩ | rfl
    · simp only [apply] at h4 ⊢
      obtain ⟨h5, h6⟩ := map_H (α := V) h4
      unfold aLd at h5 ⊢
      split at h5
      · rename_i id o hd
        simp only [List.cons.injEq, and_true] at hd
        have := hs id o (by rw [hu]; exact congrArg some (dis_ptr hd))
        rw [hget_hcells, this, ← hget_hcells, h5]; rfl
      · rename_i cs j hd
        simp only [List.cons.injEq, and_true] at hd
        simp only [hd, h5, Option.map_some]
      · cases h5
    · simp only [apply] at h4 ⊢
      obtain ⟨h5, h6⟩ := map_H (α := V) h4
      unfold aLv at h5 ⊢
      split at h5
      · rename_i id o hd
        simp only [List.cons.injEq, and_true] at hd
        have := hs id o (by rw [hu]; exact congrArg some (dis_ptr hd))
        rw [hget_hcells, this, ← hget_hcells, h5]; rfl
      · rename_i cs j hd
        simp only [List.cons.injEq, and_true] at hd
        simp only [hd, h5, Option.map_some]
      · cases h5
    · simp only [apply] at h4 ⊢
      obtain ⟨h5, h6⟩ := map_H (α := V) h4
      unfold aLdn at h5 ⊢
      split at h5
      · rename_i id o hd
        simp only [List.cons.injEq, and_true] at hd
        have := hs id o (by rw [hu]; exact congrArg some (dis_ptr hd))
        rw [this, h5]; rfl
      · rename_i cs j hd
        simp only [List.cons.injEq, and_true] at hd
        simp only [hd, h5, Option.map_some]
      · cases h5
  rw [key]; rfl

/-- Cells written elsewhere. -/
theorem hcells_set {H : Heap} {id j p m o n : Nat} {cs ds : List V} (hc : H[id]? = some cs) (hl : ds.length = cs.length) (hs : ∀ k, ¬ (o ≤ k ∧ k < o + n) → ds[k]? = cs[k]?) (ha : id ≠ j ∨ o + n ≤ p ∨ p + m ≤ o) :
    hcells (H.set id ds) j p m = hcells H j p m := by
  unfold hcells
  by_cases hj : id = j
  · subst hj
    have hlt := (List.getElem?_eq_some_iff.1 hc).1
    rw [List.getElem?_set_self hlt, hc]
    simp only [Option.bind_some, hl]
    by_cases hle : p + m ≤ cs.length
    · rw [if_pos hle, if_pos hle]
      congr 1
      refine List.ext_getElem? fun k => ?_
      rw [List.getElem?_take, List.getElem?_take]
      by_cases hk : k < m
      · rw [if_pos hk, if_pos hk, List.getElem?_drop, List.getElem?_drop]
        exact hs _ (by rcases ha with h | h | h <;> omega)
      · rw [if_neg hk, if_neg hk]
    · rw [if_neg hle, if_neg hle]
  · rw [List.getElem?_set_ne hj]
theorem apart_cases {id o n : Nat} {y : Option V} {j p m : Nat} (h : apartV (some (.ptr id o)) n y m = true ∨ apartV y m (some (.ptr id o)) n = true) (hy : y = some (.ptr j p)) : id ≠ j ∨ o + n ≤ p ∨ p + m ≤ o := by
  subst hy
  rcases h with h | h
  · simp only [apartV, Bool.or_eq_true, Bool.and_eq_true, decide_eq_true_eq] at h
    rcases h with h | ⟨_, h | h⟩
    · exact .inl h
    · exact .inr (.inl h)
    · exact .inr (.inr h)
  · simp only [apartV, Bool.or_eq_true, Bool.and_eq_true, decide_eq_true_eq] at h
    rcases h with h | ⟨_, h | h⟩
    · exact .inl (Ne.symm h)
    · exact .inr (.inr h)
    · exact .inr (.inl h)
/-- A store leaves what is read elsewhere as it is. -/
theorem step_wr {pure : FuncId → Bool} {T : Orc} {s : Option Nat} {i : I} {t n u m : Nat} {e f e' : Env} {H H' : Heap} {v : V} (hc : cls pure i = .W) (hp : place i = some (t, n)) (h : step T s i e H = some (v, e', H'))
    (ha : apartV (eget e t) n (eget f u) m = true ∨ apartV (eget f u) m (eget e t) n = true) : SameRd f u m H H' := by
  cases i <;> try (simp [cls] at hc; done)
  case call f xs nw => simp only [cls] at hc; split at hc <;> cases hc
  rename_i o xs
  obtain ⟨y, rfl, hk⟩ : ∃ y, xs = [.t t, y] ∧ (o = .st ∧ n = 1 ∨ o = .stn n) := by
    rw [cls_op] at hc
    unfold place at hp
    split at hp <;> simp_all
  intro j p hu
  simp only [step, evs, evX, Option.bind_eq_some_iff, Option.map_eq_some_iff] at h
  obtain ⟨⟨vs, e1⟩, ⟨q, ⟨x, hx, rfl⟩, ⟨vs', e2⟩, ⟨z, hz, ⟨ws, e3⟩, h0, h1⟩, h2⟩, h3⟩ := h
  cases h0
  cases h1
  cases h2
  split at h3
  · obtain ⟨⟨r, K⟩, h4, h5⟩ := Option.map_eq_some_iff.1 h3
    cases h5
    rcases hk with ⟨rfl, rfl⟩ | rfl
    · simp only [apply] at h4
      unfold aSt at h4
      split at h4
      · rename_i id o w hd
        simp only [List.cons.injEq, and_true] at hd
        obtain ⟨hd, rfl⟩ := hd
        split at h4
        · rename_i hh
          cases h4
          simp only [Bool.and_eq_true] at hh
          obtain ⟨c, hc1⟩ := Option.isSome_iff_exists.1 hh.1.2
          unfold hget at hc1
          obtain ⟨cs, h6, h7⟩ := Option.bind_eq_some_iff.1 hc1
          rw [hx, dis_ptr hd] at ha
          unfold hset
          rw [h6]
          refine hcells_set (n := 1) (o := o) h6 (by simp) (fun k hk => ?_) (apart_cases ha hu)
          rw [Option.getD_some, List.getElem?_set_ne (by omega)]
        · cases h4
      · cases h4
    · simp only [apply] at h4
      unfold aStn at h4
      split at h4
      · rename_i id o xs hd
        simp only [List.cons.injEq, and_true] at hd
        obtain ⟨hd, hz2⟩ := hd
        split at h4
        · rename_i hh
          cases h4
          simp only [Bool.and_eq_true, decide_eq_true_eq] at hh
          obtain ⟨⟨hl, hh⟩, _⟩ := hh
          obtain ⟨c, hc1⟩ := Option.isSome_iff_exists.1 hh
          unfold hcells at hc1
          obtain ⟨cs, h6, h7⟩ := Option.bind_eq_some_iff.1 hc1
          split at h7
          · rename_i hle
            rw [hx, dis_ptr hd] at ha
            rw [h6, Option.getD_some]
            refine hcells_set (n := n) (o := o) h6 (by unfold lay; simp; omega) (fun k hk => ?_) (apart_cases ha hu)
            unfold lay
            by_cases hk1 : k < o
            · rw [List.append_assoc, List.getElem?_append_left (by simp; omega), List.getElem?_take, if_pos hk1]
            · rw [List.getElem?_append_right (by simp; omega), List.getElem?_drop]
              congr 1
              simp only [List.length_append, List.length_take]
              omega
          · cases h7
        · cases h4
      · cases h4
  · cases h3
end Go.Abs
