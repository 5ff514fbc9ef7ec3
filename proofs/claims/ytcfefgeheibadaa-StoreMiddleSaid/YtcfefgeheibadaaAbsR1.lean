/-
  Arguments that read as data, as the machine has them.
-/
import Derived.Test.YtcfefgeheibadaaAbsF2
import Derived.ProofKit
import Derived.OpenShut
import Derived.SizedLaws
import Derived.ChangeOld
import Derived.HandedShaped
namespace Go.Abs
open Go.RowKit (Below)
open Go.ChangeShapes Go.WideShapes

/-- Types of plain data. -/
inductive Ty where
  | bool
  | int (k : IntKind)
  | str
  | sl (e : Ty)
  | st (fs : List Ty)
  | arr (n : Nat) (e : Ty)

mutual
/-- Cells of a value of a type. -/
def TyV : Ty → List V → Prop
  | .bool, cs => ∃ b, cs = [.bool b]
  | .int k, cs => ∃ n, cs = [.int k n] ∧ (Lit.int k n).wf = true
  | .str, cs => ∃ s : List UInt8, cs = [.str s] ∧ s.length ≤ 140737488351232
  | .sl e, cs => ∃ es : List (List V), cs = [.sl none es.length es.flatten] ∧ es.length ≤ 140737488351232 ∧ ∀ x ∈ es, TyV e x
  | .st fs, cs => TyL fs cs
  | .arr n e, cs => ∃ es : List (List V), cs = es.flatten ∧ es.length = n ∧ ∀ x ∈ es, TyV e x
def TyL : List Ty → List V → Prop
  | [], cs => cs = []
  | t :: ts, cs => ∃ a b, cs = a ++ b ∧ TyV t a ∧ TyL ts b
end
def Ty.isAgg : Ty → Bool
  | .st _ | .arr .. => true
  | _ => false
/-- A value of a type. -/
def TyA (t : Ty) (v : V) : Prop := if t.isAgg then ∃ cs, v = .agg cs ∧ TyV t cs else TyV t [v]
def TyAs : List Ty → List V → Prop
  | [], vs => vs = []
  | t :: ts, vs => ∃ v r, vs = v :: r ∧ TyA t v ∧ TyAs ts r

mutual
def tyOK (P : Program) : Ty → TypeId → Bool
  | .bool, t => match P.underlying t with | some .bool => true | _ => false
  | .int k, t => match P.underlying t with | some (.int j) => j == k | _ => false
  | .str, t => match P.underlying t with | some .string => true | _ => false
  | .sl e, t => match P.underlying t with | some (.slice u) => tyOK P e u && decide (0 < P.cellsOf u) && decide (0 < P.bytesOf u) | _ => false
  | .st fs, t => match P.underlying t with | some (.struct gs) => tyOKL P fs gs.toList 0 (P.cellsOf t) | _ => false
  | .arr n e, t => match P.underlying t with | some (.array m u) => m == n && tyOK P e u && P.cellsOf t == n * P.cellsOf u | _ => false
def tyOKL (P : Program) : List Ty → List Field → Nat → Nat → Bool
  | [], [], o, n => o == n
  | t :: ts, g :: gs, o, n => g.offset == o && tyOK P t g.type && tyOKL P ts gs (o + P.cellsOf g.type) n
  | _, _, _, _ => false
end
def tyOKs (P : Program) : List Ty → List TypeId → Bool
  | [], [] => true
  | t :: ts, u :: us => tyOK P t u && tyOKs P ts us
  | _, _ => false

section
variable {H : Type} {enc : TypeId × Value → H} {P : Program} {w : World}

def There (w : World) (b o : Nat) : Prop := (w.cell? ⟨b, o, none⟩).isSome = true
/-- The cells are there, plain, and without leave to append. -/
def Plain (w : World) (vs : List V) (cs : List Value) : Prop := RepL (There w) [] w vs cs ∧ ∀ v ∈ vs, v.single = true ∧ v.dis1 = v

theorem Plain.append {vs us : List V} {cs ds : List Value} (h : Plain w vs cs) (k : Plain w us ds) : Plain w (vs ++ us) (cs ++ ds) :=
  ⟨RepL_append h.1 k.1, fun v hv => (List.mem_append.1 hv).elim (h.2 v) (k.2 v)⟩
theorem Plain.nil : Plain w [] [] := ⟨by simp [RepL], by simp⟩
theorem Plain.len {vs : List V} {cs : List Value} (h : Plain w vs cs) : vs.length = cs.length := ((RepL_iff _ _).1 h.1).1
theorem Plain.one {v : V} {c : Value} (h : Rep (There w) [] w v c) (hs : v.single = true) (hd : v.dis1 = v) : Plain w [v] [c] :=
  ⟨by simp only [RepL]; exact ⟨c, [], rfl, h, rfl⟩, by simp; exact ⟨hs, hd⟩⟩
theorem Plain.cells {vs : List V} {cs : List Value} (h : Plain w vs cs) {b o : Nat} (hc : ∀ (j : Nat) c, cs[j]? = some c → w.cell? ⟨b, o + j, none⟩ = some c) : RepC (There w) [] w vs b o := by
  rw [RepC_iff]
  intro j v hj
  obtain ⟨hl, hr⟩ := (RepL_iff _ _).1 h.1
  obtain ⟨hjl, _⟩ := List.getElem?_eq_some_iff.1 hj
  have hcj : cs[j]? = some cs[j] := List.getElem?_eq_getElem (by omega)
  have := hc j _ hcj
  exact ⟨by unfold There; rw [this]; rfl, (h.2 v (List.mem_of_getElem? hj)).1, _, this, hr j v _ hj hcj⟩
theorem RepC.append {S bl} {vs us : List V} {b o : Nat} (h : RepC S bl w vs b o) (k : RepC S bl w us b (o + vs.length)) : RepC S bl w (vs ++ us) b o := by
  rw [RepC_iff] at h k ⊢
  intro j v hj
  by_cases hl : j < vs.length
  · rw [List.getElem?_append_left hl] at hj; exact h j v hj
  · rw [List.getElem?_append_right (by omega)] at hj
    have := k _ v hj
    rwa [show o + vs.length + (j - vs.length) = o + j by omega] at this
theorem RepC.nil' {S bl} {b o : Nat} : RepC S bl w [] b o := by simp only [RepC]

/-- Elements laid one behind the other. -/
theorem elems_cells {sz b o : Nat} : ∀ (n : Nat) (k : Nat) (Q : List V → Prop), (∀ i, i < n → ∃ vs cs, Q vs ∧ Plain w vs cs ∧ cs.length = sz ∧ ∀ (j : Nat) c, cs[j]? = some c → w.cell? ⟨b, o + (k + i) * sz + j, none⟩ = some c) →
    ∃ es : List (List V), es.length = n ∧ (∀ x ∈ es, Q x) ∧ RepC (There w) [] w es.flatten b (o + k * sz) ∧ es.flatten.length = n * sz
  | 0, k, Q, _ => ⟨[], rfl, by simp, RepC.nil', by simp⟩
  | n + 1, k, Q, h => by
    obtain ⟨vs, cs, h1, h2, h3, h4⟩ := h 0 (by omega)
    obtain ⟨es, e1, e2, e3, e4⟩ := elems_cells n (k + 1) Q fun i hi => by
      obtain ⟨vs, cs, a1, a2, a3, a4⟩ := h (i + 1) (by omega)
      exact ⟨vs, cs, a1, a2, a3, fun j c hj => by have := a4 j c hj; rwa [show k + (i + 1) = k + 1 + i by omega] at this⟩
    refine ⟨vs :: es, by simp [e1], ?_, ?_, ?_⟩
    · intro x hx
      rcases List.mem_cons.1 hx with rfl | hx
      · exact h1
      · exact e2 x hx
    · rw [List.flatten_cons]
      refine RepC.append (h2.cells fun j c hj => by have := h4 j c hj; rwa [Nat.add_zero] at this) ?_
      rw [h2.len, h3]
      rwa [Nat.add_mul, Nat.one_mul, ← Nat.add_assoc] at e3
    · rw [List.flatten_cons, List.length_append, e4, h2.len, h3, Nat.add_mul]; omega

theorem cells?_get {a : Addr} {n : Nat} {cs : List Value} {base : Nat} (h : w.cells? base a n = some cs) : cs.length = n ∧ ∀ i, i < n → w.cell? (a.add i) = cs[i]? := by
  unfold World.cells? at h
  split at h
  · have h1 := mapM_some_length h
    refine ⟨by simpa using h1, fun i hi => ?_⟩
    exact mapM_some_get h i i (by simp [hi])
  · cases h

/-- Fields laid one behind the other. -/
theorem fields_plain {cs : List Value} {n : Nat} : ∀ (ts : List Ty) (gs : List Field) (o : Nat), tyOKL P ts gs o n = true → n = cs.length →
    (∀ (i : Nat) (t : Ty) (g : Field), ts[i]? = some t → gs[i]? = some g → ∃ vs, TyV t vs ∧ Plain w vs ((cs.drop g.offset).take (P.cellsOf g.type)) ) →
    ∃ vs, TyL ts vs ∧ Plain w vs (cs.drop o)
  | [], [], o, hok, hn, _ => by
    simp only [tyOKL, beq_iff_eq] at hok
    refine ⟨[], by simp only [TyL], ?_⟩
    rw [List.drop_of_length_le (by omega)]
    exact Plain.nil
  | [], _ :: _, _, hok, _, _ => by simp [tyOKL] at hok
  | _ :: _, [], _, hok, _, _ => by simp [tyOKL] at hok
  | t :: ts, g :: gs, o, hok, hn, h => by
    simp only [tyOKL, Bool.and_eq_true, beq_iff_eq] at hok
    obtain ⟨⟨rfl, _⟩, hok⟩ := hok
    obtain ⟨vs, h1, h2⟩ := h 0 t g rfl rfl
    obtain ⟨us, k1, k2⟩ := fields_plain ts gs _ hok hn fun i t' g' ht hg => h (i + 1) t' g' (by simpa using ht) (by simpa using hg)
    refine ⟨vs ++ us, by simp only [TyL]; exact ⟨vs, us, rfl, h1, k1⟩, ?_⟩
    have := h2.append k2
    rwa [← List.drop_drop, List.take_append_drop] at this

theorem elems_plain {cs : List Value} {sz : Nat} {Q : List V → Prop} : ∀ (n k : Nat), cs.length = (k + n) * sz → (∀ i, i < n → ∃ vs, Q vs ∧ Plain w vs ((cs.drop ((k + i) * sz)).take sz)) →
    ∃ es : List (List V), es.length = n ∧ (∀ x ∈ es, Q x) ∧ Plain w es.flatten (cs.drop (k * sz))
  | 0, k, hl, _ => ⟨[], rfl, by simp, by rw [List.drop_of_length_le (by rw [hl]; exact Nat.le_refl _)]; exact Plain.nil⟩
  | n + 1, k, hl, h => by
    obtain ⟨vs, h1, h2⟩ := h 0 (by omega)
    obtain ⟨es, e1, e2, e3⟩ := elems_plain (Q := Q) n (k + 1) (by rw [hl]; congr 1; omega) fun i hi => by
      have := h (i + 1) (by omega)
      rwa [show k + (i + 1) = k + 1 + i by omega] at this
    refine ⟨vs :: es, by simp [e1], ?_, ?_⟩
    · intro x hx
      rcases List.mem_cons.1 hx with rfl | hx
      · exact h1
      · exact e2 x hx
    · rw [List.flatten_cons]
      have := h2.append e3
      rwa [Nat.add_zero, Nat.add_mul, Nat.one_mul, ← List.drop_drop, List.take_append_drop] at this

theorem tyOKL_get : ∀ {ts : List Ty} {gs : List Field} {o n : Nat}, tyOKL P ts gs o n = true → ∀ (i : Nat) (t : Ty) (g : Field), ts[i]? = some t → gs[i]? = some g → tyOK P t g.type = true
  | [], _, _, _, _, i, t, g, ht, _ => by simp at ht
  | _ :: _, [], _, _, _, i, t, g, _, hg => by simp at hg
  | t :: ts, g :: gs, o, n, h, i, t', g', ht, hg => by
    simp only [tyOKL, Bool.and_eq_true] at h
    cases i with
    | zero => simp at ht hg; subst ht; subst hg; exact h.1.2
    | succ i => exact tyOKL_get h.2 i t' g' (by simpa using ht) (by simpa using hg)

theorem sizeOf_get {ts : List Ty} {i : Nat} {t : Ty} (h : ts[i]? = some t) : SizeOf.sizeOf t < SizeOf.sizeOf ts := List.sizeOf_lt_of_mem (List.mem_of_getElem? h)
theorem tyOKL_len : ∀ {ts : List Ty} {gs : List Field} {o n : Nat}, tyOKL P ts gs o n = true → ts.length = gs.length
  | [], [], _, _, _ => rfl
  | [], _ :: _, _, _, h => by simp [tyOKL] at h
  | _ :: _, [], _, _, h => by simp [tyOKL] at h
  | _ :: ts, _ :: gs, _, _, h => by
    simp only [tyOKL, Bool.and_eq_true] at h
    simp [tyOKL_len h.2]

theorem mem_weightsAll {e : TypeId} : ∀ {l : List (DataW H)} {d : DataW H} {n : Nat}, d ∈ l → n ∈ d.weights P e → n ∈ DataW.weightsAll P e l
  | [], _, _, h, _ => by cases h
  | c :: l, d, n, h, hn => by
    rw [DataW.weightsAll, List.mem_append]
    rcases List.mem_cons.1 h with rfl | h
    · exact .inl hn
    · exact .inr (mem_weightsAll h hn)
theorem mem_weightsEach : ∀ {ts : List TypeId} {l : List (DataW H)} {i : Nat} {t : TypeId} {d : DataW H} {n : Nat}, ts[i]? = some t → l[i]? = some d → n ∈ d.weights P t → n ∈ DataW.weightsEach P ts l
  | [], _, i, _, _, _, h, _, _ => by simp at h
  | _ :: _, [], i, _, _, _, _, h, _ => by simp at h
  | t :: ts, c :: l, 0, u, d, n, ht, hd, hn => by
    simp only [List.getElem?_cons_zero, Option.some.injEq] at ht hd
    subst ht; subst hd
    rw [DataW.weightsEach, List.mem_append]; exact .inl hn
  | t :: ts, c :: l, i + 1, u, d, n, ht, hd, hn => by
    rw [DataW.weightsEach, List.mem_append]; exact .inr (mem_weightsEach (by simpa using ht) (by simpa using hd) hn)

/-- **What reads as data of a type.** -/
theorem read_plain {held : Bool} : ∀ (ty : Ty) (t : TypeId) (fuel : Nat) (cs : List Value) (x : DataW H × List MemPlace), tyOK P ty t = true → DataW.trod enc P w 0 (fun _ => true) held fuel t cs = some x → (∀ n ∈ x.1.weights P t, n ≤ reachBytes) →
    ∃ vs, TyV ty vs ∧ Plain w vs cs
  | .bool, t, fuel, cs, x, hok, h, hw => by
    simp only [tyOK] at hok
    split at hok
    · rename_i ht
      obtain ⟨b, rfl, _⟩ := DataW.trod_bool ht h
      exact ⟨[.bool b], by simp only [TyV]; exact ⟨b, rfl⟩, Plain.one (rep_bool ..) rfl rfl⟩
    · cases hok
  | .int k, t, fuel, cs, x, hok, h, hw => by
    simp only [tyOK] at hok
    split at hok
    · rename_i j ht
      simp only [beq_iff_eq] at hok
      subst hok
      obtain ⟨n, rfl, _, hwf⟩ := DataW.trod_int ht h
      exact ⟨[.int j n], by simp only [TyV]; exact ⟨n, rfl, hwf⟩, Plain.one (rep_int ..) rfl rfl⟩
    · cases hok
  | .str, t, fuel, cs, x, hok, h, hw => by
    simp only [tyOK] at hok
    split at hok
    · rename_i ht
      obtain ⟨s, rfl, rfl, hs⟩ := DataW.trod_string ht h
      have hb := hw s.data.toList.length (by simp [DataW.weights])
      exact ⟨[.str s.data.toList], by simp only [TyV]; exact ⟨_, rfl, hb⟩, Plain.one (rep_str ..) rfl rfl⟩
    · cases hok
  | .st fs, t, fuel, cs, x, hok, h, hw => by
    simp only [tyOK] at hok
    split at hok
    · rename_i gs ht
      obtain ⟨xs, m, rfl, rfl, hl, hlen, hf⟩ := DataW.trod_struct ht h
      simp only [DataW.weights, ht] at hw
      obtain ⟨vs, k1, k2⟩ := fields_plain (w := w) (cs := cs) fs gs.toList 0 hok hl.symm fun i ty g hty hg => by
        have hg' : gs[i]? = some g := by simpa using hg
        have hti := hf i g hg'
        have hil : i < xs.length := by rw [hlen]; exact (Array.getElem?_eq_some_iff.1 hg').1
        rw [List.getElem?_eq_getElem hil] at hti
        have : SizeOf.sizeOf ty < SizeOf.sizeOf fs := sizeOf_get hty
        exact read_plain ty g.type m _ _ (tyOKL_get hok i ty g hty hg) hti fun n hn => hw n (mem_weightsEach (i := i) (by simp [hg']) (by simp [hil]) hn)
      exact ⟨vs, by simp only [TyV]; exact k1, by simpa using k2⟩
    · cases hok
  | .arr n e, t, fuel, cs, x, hok, h, hw => by
    simp only [tyOK] at hok
    split at hok
    · rename_i m u ht
      simp only [Bool.and_eq_true, beq_iff_eq] at hok
      obtain ⟨⟨rfl, hok⟩, hsz⟩ := hok
      obtain ⟨xs, k, rfl, rfl, hl, hlen, hf⟩ := DataW.trod_array ht h
      simp only [DataW.weights, ht] at hw
      obtain ⟨es, e1, e2, e3⟩ := elems_plain (w := w) (cs := cs) (sz := P.cellsOf u) (Q := TyV e) m 0 (by rw [hl, hsz, Nat.zero_add]) fun i hi => by
        have hti := hf i hi
        rw [List.getElem?_eq_getElem (by omega)] at hti
        rw [Nat.zero_add]
        exact read_plain e u k _ _ hok hti fun n hn => hw n (mem_weightsAll (List.mem_map.2 ⟨_, List.getElem_mem _, rfl⟩) hn)
      exact ⟨es.flatten, by simp only [TyV]; exact ⟨es, rfl, e1, e2⟩, by simpa using e3⟩
    · cases hok
  | .sl e, t, fuel, cs, x, hok, h, hw => by
    simp only [tyOK] at hok
    split at hok
    · rename_i u ht
      simp only [Bool.and_eq_true, decide_eq_true_eq] at hok
      obtain ⟨⟨hok, hpos⟩, hby⟩ := hok
      rcases DataW.trod_slice ht h with ⟨rfl, _⟩ | ⟨a, len, cap, elems, rest, m, rfl, rfl, rfl, _, hle, hmax, hlen, hel, hsp, _⟩
      · refine ⟨[.sl none 0 []], by simp only [TyV]; exact ⟨[], rfl, by simp, by simp⟩, Plain.one ?_ rfl rfl⟩
        simp only [Rep]
        exact ⟨none, 0, rfl, Nat.le_refl _, by simp, fun ad h => by cases h⟩
      · simp only [DataW.weights, ht, List.mem_cons, List.mem_append] at hw
        have spot : cap ≠ 0 → a.spot = none := by
          intro hc
          have key : ∀ i y, i = 0 → (w.cells? 0 (a.add (i * P.cellsOf u)) (P.cellsOf u)).bind (DataW.trod enc P w 0 (fun _ => true) held m u) = some y → a.spot = none := by
            rintro i y rfl hy
            obtain ⟨ci, h1, _⟩ := Option.bind_eq_some_iff.1 hy
            obtain ⟨l1, l2⟩ := cells?_get h1
            have := l2 0 hpos
            rw [List.getElem?_eq_getElem (by omega)] at this
            have := World.cell?_spot this
            simpa [Addr.add] using this
          by_cases hl0 : 0 < len
          · have := hel 0 hl0
            rw [List.getElem?_eq_getElem (by omega)] at this
            exact key 0 _ rfl this
          · obtain ⟨r1, r2⟩ := hsp rfl
            have := r2 0 (by omega)
            rw [List.getElem?_eq_getElem (by omega)] at this
            exact key _ _ (by omega) this
        obtain ⟨es, e1, e2, e3, e4⟩ : ∃ es : List (List V), es.length = len ∧ (∀ x ∈ es, TyV e x) ∧ RepC (There w) [] w es.flatten a.block a.off ∧ es.flatten.length = len * P.cellsOf u := by
          by_cases hc : cap = 0
          · obtain rfl : len = 0 := by omega
            exact ⟨[], rfl, by simp, RepC.nil', by simp⟩
          · have := elems_cells (w := w) (sz := P.cellsOf u) (b := a.block) (o := a.off) len 0 (TyV e) fun i hi => by
              have hb := hel i hi
              rw [List.getElem?_eq_getElem (by omega)] at hb
              obtain ⟨ci, h1, h2⟩ := Option.bind_eq_some_iff.1 hb
              obtain ⟨l1, l2⟩ := cells?_get h1
              obtain ⟨vs, k1, k2⟩ := read_plain e u m _ _ hok h2 fun n hn => hw n (.inr (.inl (mem_weightsAll (List.mem_map.2 ⟨_, List.getElem_mem _, rfl⟩) hn)))
              refine ⟨vs, ci, k1, k2, l1, fun j c hj => ?_⟩
              obtain ⟨hjl, _⟩ := List.getElem?_eq_some_iff.1 hj
              have := l2 j (by omega)
              rw [hj] at this
              rw [addr_eta (spot hc), Go.Abs.add_none, Go.Abs.add_none] at this
              rw [Nat.zero_add]
              exact this
            simpa using this
        have hlen47 : len ≤ 140737488351232 := by
          have h1 := hw _ (.inl rfl)
          simp only [List.length_map, hlen, reachBytes] at h1
          have h2 : len * 1 ≤ (len + rest.length) * P.bytesOf u := Nat.mul_le_mul (Nat.le_add_right _ _) hby
          omega
        refine ⟨[.sl none len es.flatten], by simp only [TyV]; exact ⟨es, by rw [e1], by rw [e1]; exact hlen47, e2⟩, Plain.one ?_ rfl rfl⟩
        simp only [Rep]
        exact ⟨some a, cap, rfl, hle, (fun k => by cases k), fun ad had => by cases had; exact ⟨spot, e3⟩⟩
    · cases hok
end
end Go.Abs
