/-
  What abstract values, heaps and environments say of a world of the model.
-/
import Derived.Test.YtcfefgeheibadaaAbsB
import Derived.Test.YtcfefgeheibadaaAbsE
import Derived.Below
import Derived.Orders
import Derived.Laws.Sem
namespace Go.Abs
set_option linter.unusedVariables false

/-- Has a block so many cells? -/
def Fits (w : World) (b k : Nat) : Prop := ∃ carr e f, w.heap[b]? = some (.cells carr e f) ∧ k ≤ carr.size
theorem Fits.same {w w' : World} {b k : Nat} (h : Fits w b k) (e : w'.heap[b]? = w.heap[b]?) : Fits w' b k := by unfold Fits; rw [e]; exact h
theorem Fits.le {w : World} {b k m : Nat} (h : Fits w b k) (e : m ≤ k) : Fits w b m := by
  obtain ⟨carr, t, f, h1, h2⟩ := h; exact ⟨carr, t, f, h1, Nat.le_trans e h2⟩
theorem Fits.lt {w : World} {b k : Nat} (h : Fits w b k) : b < w.heap.size := by
  obtain ⟨carr, t, f, h1, h2⟩ := h; exact (Array.getElem?_eq_some_iff.1 h1).1

mutual
/-- A value of the model says what an abstract one says. S: cells that nobody writes any more; bl: the objects' blocks. -/
def Rep (S : Nat → Nat → Prop) (bl : List Nat) (w : World) : V → Value → Prop
  | .bool b, c => c = .bool b
  | .int k n, c => c = .int k n
  | .str s, c => ∃ a : ByteArray, c = .string a ∧ a.data.toList = s
  | .ptr id off, c => ∃ b, bl[id]? = some b ∧ c = .pointer (some ⟨b, off, none⟩)
  | .nilp, c => c = .pointer none
  | .fp cs i, c => ∃ b o, c = .pointer (some ⟨b, o + i, none⟩) ∧ RepC S bl w cs b o
  | .via id off n cs, c => (∃ b, bl[id]? = some b ∧ w.cell? ⟨b, off, none⟩ = some c) ∧
      ∃ a cap, c = .slice a n cap ∧ n ≤ cap ∧ (a = none → n = 0 ∧ cap = 0 ∧ cs = []) ∧ ∀ ad, a = some ad → (cap ≠ 0 → ad.spot = none) ∧ RepC S bl w cs ad.block ad.off
  | .sl _ n cs, c => ∃ a cap, c = .slice a n cap ∧ n ≤ cap ∧ (a = none → n = 0 ∧ cap = 0 ∧ cs = []) ∧ ∀ ad, a = some ad → (cap ≠ 0 → ad.spot = none) ∧ RepC S bl w cs ad.block ad.off
  | .ar sz id off n k, c => ∃ b cap, bl[id]? = some b ∧ (n ≤ k ∧ k ≤ cap) ∧ c = .slice (some ⟨b, off, none⟩) n cap ∧ Fits w b (off + cap * sz)
  | .fn f caps, c => ∃ cs, c = .func (.func f) #[] cs ∧ RepL S bl w caps cs.toList ∧ ∀ v ∈ caps, v.single = true
  | .nilf, c => c = .nilFunc
  | .ifc t v, c => ∃ u, c = .iface t u ∧ Rep S bl w v u ∧ v.noVia = true
  | .nili, c => c = .nilIface
  | .nls, c => c = .slice none 0 0
  | .agg cs, c => ∃ a, c = .agg a ∧ RepL S bl w cs a.toList ∧ ∀ v ∈ cs, v.single = true
  | .tup vs, c => ∃ a, c = .tuple a ∧ RepL S bl w vs a.toList ∧ ∀ v ∈ vs, v.noVia = true
def RepL (S : Nat → Nat → Prop) (bl : List Nat) (w : World) : List V → List Value → Prop
  | [], cs => cs = []
  | v :: vs, cs => ∃ c r, cs = c :: r ∧ Rep S bl w v c ∧ RepL S bl w vs r
def RepC (S : Nat → Nat → Prop) (bl : List Nat) (w : World) : List V → Nat → Nat → Prop
  | [], _, _ => True
  | v :: vs, b, o => S b o ∧ v.single = true ∧ (∃ c, w.cell? ⟨b, o, none⟩ = some c ∧ Rep S bl w v c) ∧ RepC S bl w vs b (o + 1)
end

/-- A world in which all cells of S read as in another one, under more S and more objects. -/
structure Keeps (S : Nat → Nat → Prop) (w : World) (S' : Nat → Nat → Prop) (w' : World) : Prop where
  more : ∀ b o, S b o → S' b o
  cell : ∀ b o, S b o → w'.cell? ⟨b, o, none⟩ = w.cell? ⟨b, o, none⟩
  size : ∀ b k, Fits w b k → Fits w' b k

theorem V.noVia_of_single {v : V} (h : v.single = true) : v.noVia = true := by cases v <;> first | rfl | cases h

mutual
theorem Rep.mono {S S' : Nat → Nat → Prop} {bl bl' : List Nat} {w w' : World} (k : Keeps S w S' w') (hb : ∀ i b : Nat, bl[i]? = some b → bl'[i]? = some b) :
    ∀ (v : V) (c : Value), v.noVia = true → Rep S bl w v c → Rep S' bl' w' v c
  | .bool _, _, _, h | .int .., _, _, h | .nilp, _, _, h | .nilf, _, _, h | .nili, _, _, h | .nls, _, _, h | .str _, _, _, h => by simpa only [Rep] using h
  | .ptr id off, c, _, h => by
    simp only [Rep] at h ⊢
    obtain ⟨b, h1, h2⟩ := h
    exact ⟨b, hb _ _ h1, h2⟩
  | .fp cs i, c, _, h => by
    simp only [Rep] at h ⊢
    obtain ⟨b, o, h1, h2⟩ := h
    exact ⟨b, o, h1, RepC.mono k hb cs b o h2⟩
  | .via .., _, n, _ => by cases n
  | .sl _ n cs, c, _, h => by
    simp only [Rep] at h ⊢
    obtain ⟨a, cap, h3, h4, h5, h6⟩ := h
    exact ⟨a, cap, h3, h4, h5, fun ad e => ⟨(h6 ad e).1, RepC.mono k hb cs _ _ (h6 ad e).2⟩⟩
  | .ar sz id off n r, c, _, h => by
    simp only [Rep] at h ⊢
    obtain ⟨b, cap, h1, h2, h3, h4⟩ := h
    exact ⟨b, cap, hb _ _ h1, h2, h3, k.size _ _ h4⟩
  | .fn f caps, c, _, h => by
    simp only [Rep] at h ⊢
    obtain ⟨cs, h1, h2, h3⟩ := h
    exact ⟨cs, h1, RepL.mono k hb caps _ (fun v hv => V.noVia_of_single (h3 v hv)) h2, h3⟩
  | .ifc t v, c, _, h => by
    simp only [Rep] at h ⊢
    obtain ⟨u, h1, h2, h3⟩ := h
    exact ⟨u, h1, Rep.mono k hb v u h3 h2, h3⟩
  | .agg cs, c, _, h => by
    simp only [Rep] at h ⊢
    obtain ⟨a, h1, h2, h3⟩ := h
    exact ⟨a, h1, RepL.mono k hb cs _ (fun v hv => V.noVia_of_single (h3 v hv)) h2, h3⟩
  | .tup vs, c, _, h => by
    simp only [Rep] at h ⊢
    obtain ⟨a, h1, h2, h3⟩ := h
    exact ⟨a, h1, RepL.mono k hb vs _ h3 h2, h3⟩
theorem RepL.mono {S S' : Nat → Nat → Prop} {bl bl' : List Nat} {w w' : World} (k : Keeps S w S' w') (hb : ∀ i b : Nat, bl[i]? = some b → bl'[i]? = some b) :
    ∀ (vs : List V) (cs : List Value), (∀ v ∈ vs, v.noVia = true) → RepL S bl w vs cs → RepL S' bl' w' vs cs
  | [], _, _, h => by simpa only [RepL] using h
  | v :: vs, cs, n, h => by
    simp only [RepL] at h ⊢
    obtain ⟨c, r, h1, h2, h3⟩ := h
    exact ⟨c, r, h1, Rep.mono k hb v c (n v (List.mem_cons_self ..)) h2, RepL.mono k hb vs r (fun u hu => n u (List.mem_cons_of_mem _ hu)) h3⟩
theorem RepC.mono {S S' : Nat → Nat → Prop} {bl bl' : List Nat} {w w' : World} (k : Keeps S w S' w') (hb : ∀ i b : Nat, bl[i]? = some b → bl'[i]? = some b) :
    ∀ (vs : List V) (b o : Nat), RepC S bl w vs b o → RepC S' bl' w' vs b o
  | [], _, _, h => by simp only [RepC]
  | v :: vs, b, o, h => by
    simp only [RepC] at h ⊢
    obtain ⟨h1, h2, ⟨c, h3, h4⟩, h5⟩ := h
    exact ⟨k.more _ _ h1, h2, ⟨c, by rw [k.cell _ _ h1]; exact h3, Rep.mono k hb v c (V.noVia_of_single h2) h4⟩, RepC.mono k hb vs b (o + 1) h5⟩
end
/-- The same of a slice just read from a cell, as long as no object is written. -/
theorem Rep.mono_via {S S' : Nat → Nat → Prop} {bl bl' : List Nat} {w w' : World} (k : Keeps S w S' w') (hb : ∀ i b : Nat, bl[i]? = some b → bl'[i]? = some b)
    (hv : ∀ i b o : Nat, bl[i]? = some b → w'.cell? ⟨b, o, none⟩ = w.cell? ⟨b, o, none⟩) (v : V) (c : Value) (h : Rep S bl w v c) : Rep S' bl' w' v c := by
  by_cases n : v.noVia = true
  · exact Rep.mono k hb v c n h
  · cases v <;> try exact absurd rfl n
    simp only [Rep] at h ⊢
    obtain ⟨⟨b, h1, h2⟩, a, cap, h3, h4, h5, h6⟩ := h
    exact ⟨⟨b, hb _ _ h1, by rw [hv _ _ _ h1]; exact h2⟩, a, cap, h3, h4, h5, fun ad e => ⟨(h6 ad e).1, RepC.mono k hb _ _ _ (h6 ad e).2⟩⟩

/-! ### Lists of cells -/
theorem RepC_iff {S bl w} : ∀ (vs : List V) (b o : Nat), RepC S bl w vs b o ↔ ∀ (j : Nat) (v : V), vs[j]? = some v → S b (o + j) ∧ v.single = true ∧ ∃ c, w.cell? ⟨b, o + j, none⟩ = some c ∧ Rep S bl w v c
  | [], b, o => by simp [RepC]
  | v :: vs, b, o => by
    simp only [RepC, RepC_iff vs b (o + 1)]
    constructor
    · rintro ⟨h1, h2, h3, h4⟩ j u hj
      cases j with
      | zero => simp at hj; subst hj; exact ⟨h1, h2, h3⟩
      | succ j =>
        have := h4 j u (by simpa using hj)
        rwa [show o + 1 + j = o + (j + 1) by omega] at this
    · intro h
      obtain ⟨h1, h2, h3⟩ := h 0 v rfl
      refine ⟨h1, h2, h3, fun j u hj => ?_⟩
      have := h (j + 1) u (by simpa using hj)
      rwa [show o + 1 + j = o + (j + 1) by omega]
theorem RepL_iff {S bl w} : ∀ (vs : List V) (cs : List Value), RepL S bl w vs cs ↔ vs.length = cs.length ∧ ∀ (j : Nat) (v : V) (c : Value), vs[j]? = some v → cs[j]? = some c → Rep S bl w v c
  | [], cs => by
    simp only [RepL]
    constructor
    · rintro rfl; simp
    · rintro ⟨h, _⟩; exact (List.length_eq_zero_iff.1 h.symm)
  | v :: vs, cs => by
    simp only [RepL]
    constructor
    · rintro ⟨c, r, rfl, h1, h2⟩
      obtain ⟨h3, h4⟩ := (RepL_iff vs r).1 h2
      refine ⟨by simp [h3], fun j u d hu hd => ?_⟩
      cases j with
      | zero => simp at hu hd; subst hu; subst hd; exact h1
      | succ j => exact h4 j u d (by simpa using hu) (by simpa using hd)
    · rintro ⟨h, h'⟩
      cases cs with
      | nil => simp at h
      | cons c r => exact ⟨c, r, rfl, h' 0 v c rfl rfl, (RepL_iff vs r).2 ⟨by simpa using h, fun j u d hu hd => h' (j + 1) u d (by simpa using hu) (by simpa using hd)⟩⟩
theorem RepL_append {S bl w} : ∀ {vs us : List V} {cs ds : List Value}, RepL S bl w vs cs → RepL S bl w us ds → RepL S bl w (vs ++ us) (cs ++ ds)
  | [], us, cs, ds, h, k => by simp only [RepL] at h; subst h; exact k
  | v :: vs, us, cs, ds, h, k => by
    simp only [RepL, List.cons_append] at h ⊢
    obtain ⟨c, r, rfl, h1, h2⟩ := h
    exact ⟨c, r ++ ds, rfl, h1, RepL_append h2 k⟩

/-! ### Without leave to append it is the same value -/
theorem Rep.dis1 {S bl w} {v : V} {c : Value} (h : Rep S bl w v c) : Rep S bl w v.dis1 c := by
  cases v <;> try exact h
  simp only [V.dis1, Rep] at h ⊢
  exact h.2
theorem V.dis1_single {v : V} (h : v.single = true) : v.dis1.single = true := by cases v <;> first | rfl | cases h
theorem V.dis1_noVia (v : V) : v.dis1.noVia = true := by cases v <;> rfl
theorem RepL.dis1 {S bl w} : ∀ {vs : List V} {cs : List Value}, RepL S bl w vs cs → RepL S bl w (vs.map V.dis1) cs
  | [], cs, h => h
  | v :: vs, cs, h => by
    simp only [RepL, List.map_cons] at h ⊢
    obtain ⟨c, r, h1, h2, h3⟩ := h
    exact ⟨c, r, h1, h2.dis1, RepL.dis1 h3⟩
theorem RepC.dis1 {S bl w} : ∀ {vs : List V} {b o : Nat}, RepC S bl w vs b o → RepC S bl w (vs.map V.dis1) b o
  | [], _, _, h => h
  | v :: vs, b, o, h => by
    simp only [RepC, List.map_cons] at h ⊢
    obtain ⟨h1, h2, ⟨c, h3, h4⟩, h5⟩ := h
    exact ⟨h1, V.dis1_single h2, ⟨c, h3, h4.dis1⟩, RepC.dis1 h5⟩
theorem Rep.dis2 {S bl w} {v : V} {c : Value} (h : Rep S bl w v c) : Rep S bl w v.dis2 c := by
  cases v <;> try exact h
  all_goals simp only [V.dis2, Rep] at h ⊢
  · exact h.2
  · obtain ⟨a, h1, h2, h3⟩ := h
    exact ⟨a, h1, h2.dis1, fun u hu => by obtain ⟨x, hx, rfl⟩ := List.mem_map.1 hu; exact V.dis1_single (h3 x hx)⟩
theorem V.dis2_noVia (v : V) : v.dis2.noVia = true := by cases v <;> rfl
theorem RepL.dis2 {S bl w} : ∀ {vs : List V} {cs : List Value}, RepL S bl w vs cs → RepL S bl w (vs.map V.dis2) cs
  | [], cs, h => h
  | v :: vs, cs, h => by
    simp only [RepL, List.map_cons] at h ⊢
    obtain ⟨c, r, h1, h2, h3⟩ := h
    exact ⟨c, r, h1, h2.dis2, RepL.dis2 h3⟩
theorem Rep.dis {S bl w} {v : V} {c : Value} (h : Rep S bl w v c) : Rep S bl w v.dis c := by
  cases v <;> try exact h
  all_goals simp only [V.dis, Rep] at h ⊢
  · exact h.2
  · obtain ⟨a, h1, h2, h3⟩ := h
    exact ⟨a, h1, h2.dis1, fun u hu => by obtain ⟨x, hx, rfl⟩ := List.mem_map.1 hu; exact V.dis1_single (h3 x hx)⟩
  · obtain ⟨a, h1, h2, h3⟩ := h
    exact ⟨a, h1, h2.dis2, fun u hu => by obtain ⟨x, hx, rfl⟩ := List.mem_map.1 hu; exact V.dis2_noVia x⟩
theorem V.dis_noVia (v : V) : v.dis.noVia = true := by cases v <;> rfl

/-! ### One cell -/
theorem Rep.oneCell {S bl w} {v : V} {c : Value} (h : Rep S bl w v c) (hs : v.single = true) : c.oneCell' = true ∧ c.cells = #[c] := by
  cases v with
  | bool | int | nilp | nilf | nili | nls => simp only [Rep] at h; subst h; exact ⟨rfl, rfl⟩
  | str => simp only [Rep] at h; obtain ⟨a, rfl, _⟩ := h; exact ⟨rfl, rfl⟩
  | ptr => simp only [Rep] at h; obtain ⟨b, _, rfl⟩ := h; exact ⟨rfl, rfl⟩
  | fp => simp only [Rep] at h; obtain ⟨b, o, rfl, _⟩ := h; exact ⟨rfl, rfl⟩
  | via => cases hs
  | sl => simp only [Rep] at h; obtain ⟨a, cap, rfl, _⟩ := h; exact ⟨rfl, rfl⟩
  | ar => simp only [Rep] at h; obtain ⟨b, cap, _, _, rfl, _⟩ := h; exact ⟨rfl, rfl⟩
  | fn => simp only [Rep] at h; obtain ⟨cs, rfl, _⟩ := h; exact ⟨rfl, rfl⟩
  | ifc => simp only [Rep] at h; obtain ⟨u, rfl, _⟩ := h; exact ⟨rfl, rfl⟩
  | agg => cases hs
  | tup => cases hs
/-- The cells of a value. -/
theorem Rep.cells {S bl w} {v : V} {c : Value} (h : Rep S bl w v c) (hs : v.single = true ∨ ∃ cs, v = .agg cs) : RepL S bl w v.cells c.cells.toList ∧ ∀ u ∈ v.cells, u.single = true := by
  rcases hs with hs | ⟨cs, rfl⟩
  · have h1 := (h.oneCell hs).2
    have h2 : v.cells = [v] := by cases v <;> first | rfl | cases hs
    rw [h1, h2]
    exact ⟨by simp only [RepL]; exact ⟨c, [], rfl, h, rfl⟩, by simpa using hs⟩
  · simp only [Rep] at h
    obtain ⟨a, rfl, h2, h3⟩ := h
    exact ⟨h2, h3⟩

/-! ### References -/
mutual
theorem Rep.rb {S bl w} {n : Nat} (hn : bl.length ≤ n) : ∀ (v : V) (c : Value), Rep S bl w v c → v.rb n = true
  | .bool _, _, _ | .int .., _, _ | .nilp, _, _ | .nilf, _, _ | .nili, _, _ | .nls, _, _ | .str _, _, _ => by simp only [V.rb]
  | .ptr id off, c, h => by
    simp only [Rep] at h; simp only [V.rb, decide_eq_true_eq]
    obtain ⟨b, h1, _⟩ := h
    have := (List.getElem?_eq_some_iff.1 h1).1; omega
  | .fp cs i, c, h => by
    simp only [Rep] at h; simp only [V.rb]
    obtain ⟨b, o, _, h2⟩ := h; exact RepC.rb hn cs b o h2
  | .via id off n' cs, c, h => by
    simp only [Rep] at h; simp only [V.rb, Bool.and_eq_true, decide_eq_true_eq]
    obtain ⟨⟨b, h1, _⟩, a, cap, _, _, h5, h6⟩ := h
    have := (List.getElem?_eq_some_iff.1 h1).1
    refine ⟨by omega, ?_⟩
    cases a with
    | none => rw [(h5 rfl).2.2]; simp only [V.rbL]
    | some ad => exact RepC.rb hn cs _ _ (h6 ad rfl).2
  | .sl _ n' cs, c, h => by
    simp only [Rep] at h; simp only [V.rb]
    obtain ⟨a, cap, _, _, h5, h6⟩ := h
    cases a with
    | none => rw [(h5 rfl).2.2]; simp only [V.rbL]
    | some ad => exact RepC.rb hn cs _ _ (h6 ad rfl).2
  | .ar sz id off n' r, c, h => by
    simp only [Rep] at h; simp only [V.rb, decide_eq_true_eq]
    obtain ⟨b, cap, h1, _⟩ := h
    have := (List.getElem?_eq_some_iff.1 h1).1; omega
  | .fn f caps, c, h => by
    simp only [Rep] at h; simp only [V.rb]
    obtain ⟨cs, _, h2, _⟩ := h; exact RepL.rb hn caps _ h2
  | .ifc t v, c, h => by
    simp only [Rep] at h; simp only [V.rb]
    obtain ⟨u, _, h2, _⟩ := h; exact Rep.rb hn v u h2
  | .agg cs, c, h => by
    simp only [Rep] at h; simp only [V.rb]
    obtain ⟨a, _, h2, _⟩ := h; exact RepL.rb hn cs _ h2
  | .tup vs, c, h => by
    simp only [Rep] at h; simp only [V.rb]
    obtain ⟨a, _, h2, _⟩ := h; exact RepL.rb hn vs _ h2
theorem RepL.rb {S bl w} {n : Nat} (hn : bl.length ≤ n) : ∀ (vs : List V) (cs : List Value), RepL S bl w vs cs → V.rbL n vs = true
  | [], _, _ => by simp only [V.rbL]
  | v :: vs, cs, h => by
    simp only [RepL] at h; simp only [V.rbL, Bool.and_eq_true]
    obtain ⟨c, r, _, h2, h3⟩ := h
    exact ⟨Rep.rb hn v c h2, RepL.rb hn vs r h3⟩
theorem RepC.rb {S bl w} {n : Nat} (hn : bl.length ≤ n) : ∀ (vs : List V) (b o : Nat), RepC S bl w vs b o → V.rbL n vs = true
  | [], _, _, _ => by simp only [V.rbL]
  | v :: vs, b, o, h => by
    simp only [RepC] at h; simp only [V.rbL, Bool.and_eq_true]
    obtain ⟨_, _, ⟨c, _, h4⟩, h5⟩ := h
    exact ⟨Rep.rb hn v c h4, RepC.rb hn vs b (o + 1) h5⟩
end
mutual
theorem V.rb_mono {n m : Nat} (h : n ≤ m) : ∀ v : V, v.rb n = true → v.rb m = true
  | .bool _, _ | .int .., _ | .nilp, _ | .nilf, _ | .nili, _ | .nls, _ | .str _, _ => by simp only [V.rb]
  | .ptr id off, k | .ar _ id _ _ _, k => by simp only [V.rb, decide_eq_true_eq] at k ⊢; omega
  | .fp cs i, k => by simp only [V.rb] at k ⊢; exact V.rbL_mono h cs k
  | .via id off n' cs, k => by simp only [V.rb, Bool.and_eq_true, decide_eq_true_eq] at k ⊢; exact ⟨by omega, V.rbL_mono h cs k.2⟩
  | .sl _ n' cs, k => by simp only [V.rb] at k ⊢; exact V.rbL_mono h cs k
  | .fn f caps, k => by simp only [V.rb] at k ⊢; exact V.rbL_mono h caps k
  | .ifc t v, k => by simp only [V.rb] at k ⊢; exact V.rb_mono h v k
  | .agg cs, k => by simp only [V.rb] at k ⊢; exact V.rbL_mono h cs k
  | .tup cs, k => by simp only [V.rb] at k ⊢; exact V.rbL_mono h cs k
theorem V.rbL_mono {n m : Nat} (h : n ≤ m) : ∀ vs : List V, V.rbL n vs = true → V.rbL m vs = true
  | [], _ => by simp only [V.rbL]
  | v :: vs, k => by simp only [V.rbL, Bool.and_eq_true] at k ⊢; exact ⟨V.rb_mono h v k.1, V.rbL_mono h vs k.2⟩
end
theorem V.rbL_iff {n : Nat} : ∀ {vs : List V}, V.rbL n vs = true ↔ ∀ v ∈ vs, v.rb n = true
  | [] => by simp [V.rbL]
  | v :: vs => by simp [V.rbL, V.rbL_iff (vs := vs)]
theorem V.rb_dis1 {n : Nat} (v : V) (h : v.rb n = true) : v.dis1.rb n = true := by
  cases v <;> first | exact h | (simp only [V.rb, V.dis1, Bool.and_eq_true] at h ⊢; exact h.2)

mutual
/-- Fewer objects: what names only those that stay says the same. -/
theorem Rep.cut {S bl w} {m : Nat} : ∀ (v : V) (c : Value), v.rb m = true → Rep S bl w v c → Rep S (bl.take m) w v c
  | .bool _, _, _, h | .int .., _, _, h | .nilp, _, _, h | .nilf, _, _, h | .nili, _, _, h | .nls, _, _, h | .str _, _, _, h => by simpa only [Rep] using h
  | .ptr id off, c, k, h => by
    simp only [Rep] at h ⊢; simp only [V.rb, decide_eq_true_eq] at k
    obtain ⟨b, h1, h2⟩ := h
    exact ⟨b, by rw [List.getElem?_take, if_pos k]; exact h1, h2⟩
  | .fp cs i, c, k, h => by
    simp only [Rep] at h ⊢; simp only [V.rb] at k
    obtain ⟨b, o, h1, h2⟩ := h
    exact ⟨b, o, h1, RepC.cut cs b o k h2⟩
  | .via id off n cs, c, k, h => by
    simp only [Rep] at h ⊢; simp only [V.rb, Bool.and_eq_true, decide_eq_true_eq] at k
    obtain ⟨⟨b, h1, h2⟩, a, cap, h3, h4, h5, h6⟩ := h
    exact ⟨⟨b, by rw [List.getElem?_take, if_pos k.1]; exact h1, h2⟩, a, cap, h3, h4, h5, fun ad e => ⟨(h6 ad e).1, RepC.cut cs _ _ k.2 (h6 ad e).2⟩⟩
  | .sl _ n cs, c, k, h => by
    simp only [Rep] at h ⊢; simp only [V.rb] at k
    obtain ⟨a, cap, h3, h4, h5, h6⟩ := h
    exact ⟨a, cap, h3, h4, h5, fun ad e => ⟨(h6 ad e).1, RepC.cut cs _ _ k (h6 ad e).2⟩⟩
  | .ar sz id off n r, c, k, h => by
    simp only [Rep] at h ⊢; simp only [V.rb, decide_eq_true_eq] at k
    obtain ⟨b, cap, h1, h2, h3, h4⟩ := h
    exact ⟨b, cap, by rw [List.getElem?_take, if_pos k]; exact h1, h2, h3, h4⟩
  | .fn f caps, c, k, h => by
    simp only [Rep] at h ⊢; simp only [V.rb] at k
    obtain ⟨cs, h1, h2, h3⟩ := h
    exact ⟨cs, h1, RepL.cut caps _ k h2, h3⟩
  | .ifc t v, c, k, h => by
    simp only [Rep] at h ⊢; simp only [V.rb] at k
    obtain ⟨u, h1, h2, h3⟩ := h
    exact ⟨u, h1, Rep.cut v u k h2, h3⟩
  | .agg cs, c, k, h => by
    simp only [Rep] at h ⊢; simp only [V.rb] at k
    obtain ⟨a, h1, h2, h3⟩ := h
    exact ⟨a, h1, RepL.cut cs _ k h2, h3⟩
  | .tup vs, c, k, h => by
    simp only [Rep] at h ⊢; simp only [V.rb] at k
    obtain ⟨a, h1, h2, h3⟩ := h
    exact ⟨a, h1, RepL.cut vs _ k h2, h3⟩
theorem RepL.cut {S bl w} {m : Nat} : ∀ (vs : List V) (cs : List Value), V.rbL m vs = true → RepL S bl w vs cs → RepL S (bl.take m) w vs cs
  | [], _, _, h => by simpa only [RepL] using h
  | v :: vs, cs, k, h => by
    simp only [RepL] at h ⊢; simp only [V.rbL, Bool.and_eq_true] at k
    obtain ⟨c, r, h1, h2, h3⟩ := h
    exact ⟨c, r, h1, Rep.cut v c k.1 h2, RepL.cut vs r k.2 h3⟩
theorem RepC.cut {S bl w} {m : Nat} : ∀ (vs : List V) (b o : Nat), V.rbL m vs = true → RepC S bl w vs b o → RepC S (bl.take m) w vs b o
  | [], _, _, _, h => by simp only [RepC]
  | v :: vs, b, o, k, h => by
    simp only [RepC] at h ⊢; simp only [V.rbL, Bool.and_eq_true] at k
    obtain ⟨h1, h2, ⟨c, h3, h4⟩, h5⟩ := h
    exact ⟨h1, h2, ⟨c, h3, Rep.cut v c k.1 h4⟩, RepC.cut vs b (o + 1) k.2 h5⟩
end
end Go.Abs
