/-
  Each operation of AbsA does what GoSem's does: slices that are made and appended to; stores.
-/
import Derived.Test.YtcfefgeheibadaaAbsY
namespace Go.Abs
open Go.RowKit (Below)
set_option linter.unusedVariables false
set_option linter.unusedSimpArgs false

section
variable {P : Program} {lim : Option Nat} {B : Nat} {F : List Nat} {S : Nat → Nat → Prop} {bl : List Nat} {vals : List (V × Value)} {H : Heap} {w : World}

/-! ### Rows of zeros -/
theorem reps_length (z : List V) : ∀ n, (reps z n).length = n * z.length
  | 0 => by simp [reps]
  | n + 1 => by simp [reps, reps_length z n, Nat.add_mul]; omega
theorem reps_get (z : List V) : ∀ (n j : Nat), j < n * z.length → (reps z n)[j]? = z[j % z.length]?
  | 0, j, h => by simp at h
  | n + 1, j, h => by
    simp only [reps]
    by_cases hj : j < z.length
    · rw [List.getElem?_append_left hj, Nat.mod_eq_of_lt hj]
    · rw [List.getElem?_append_right (by omega), reps_get z n _ (by rw [Nat.add_mul] at h; omega)]
      congr 1
      conv => rhs; rw [show j = (j - z.length) + z.length by omega, Nat.add_mod_right]
theorem reps_rep {z : List V} {Z : Array Value} {n sz : Nat} (h : RepL S bl w z Z.toList) (hl : z.length = sz) (hpos : 0 < n * sz → 0 < sz) : RepL S bl w (reps z n) ((Array.range (n * sz)).map (Z[· % Z.size]!)).toList := by
  obtain ⟨h1, h2⟩ := (RepL_iff _ _).1 h
  have hZ : Z.size = sz := by rw [← Array.length_toList]; omega
  refine (RepL_iff _ _).2 ⟨by simp [reps_length, hl], fun j v c hv hc => ?_⟩
  obtain ⟨hj, _⟩ := List.getElem?_eq_some_iff.1 hv
  rw [reps_length, hl] at hj
  have hs := hpos (by omega)
  rw [reps_get z n j (by rw [hl]; exact hj), hl] at hv
  have hm : j % sz < sz := Nat.mod_lt _ hs
  simp only [Array.toList_map, Array.toList_range, List.getElem?_map, List.getElem?_range hj, Option.map_some, Option.some.injEq] at hc
  refine h2 (j % sz) v c hv ?_
  rw [← hc, hZ, getElem!_pos _ _ (by omega), Array.getElem?_toList, Array.getElem?_eq_getElem (by omega)]
theorem reps_single {z : List V} (h : ∀ v ∈ z, v.single = true) : ∀ n, ∀ v ∈ reps z n, v.single = true
  | 0, v, hv => by simp [reps] at hv
  | n + 1, v, hv => by
    simp only [reps, List.mem_append] at hv
    exact hv.elim (h v) (reps_single h n v)
theorem reps_tips {z : List V} {Z : Array Value} {n sz : Nat} (h : okVs Z.toList z = true) (hl : z.length = sz) : tipsL (reps z n) ((Array.range (n * sz)).map (Z[· % Z.size]!)).toList = [] := by
  obtain ⟨r1, r2⟩ := okVs_rep (S := fun _ _ => False) (bl := []) (w := default) z Z.toList h
  by_cases hp : 0 < n * sz → 0 < sz
  · have hrep := reps_rep (n := n) r1 hl hp
    have key : ∀ (vs : List V) (cs : List Value), (∀ (j : Nat) v c, vs[j]? = some v → cs[j]? = some c → tips1 v c = []) → tipsL vs cs = [] := by
      intro vs
      induction vs with
      | nil => intro cs _; rfl
      | cons v vs ih =>
        intro cs hh
        cases cs with
        | nil => rfl
        | cons c cs =>
          simp only [tipsL, hh 0 v c rfl rfl, List.nil_append]
          exact ih cs fun j u d hu hd => hh (j + 1) u d (by simpa using hu) (by simpa using hd)
    refine key _ _ fun j v c hv hc => ?_
    obtain ⟨hj, _⟩ := List.getElem?_eq_some_iff.1 hv
    rw [reps_length, hl] at hj
    have hs := hp (by omega)
    have hm : j % sz < sz := Nat.mod_lt _ hs
    have hZ : Z.size = sz := by rw [← Array.length_toList]; have := ((RepL_iff _ _).1 r1).1; omega
    rw [reps_get z n j (by rw [hl]; exact hj), hl] at hv
    simp only [Array.toList_map, Array.toList_range, List.getElem?_map, List.getElem?_range hj, Option.map_some, Option.some.injEq] at hc
    have hc2 : Z.toList[j % sz]? = some c := by
      rw [← hc, hZ, getElem!_pos _ _ (by omega), Array.getElem?_toList, Array.getElem?_eq_getElem (by omega)]
    have e0 := okVs_tipsL z Z.toList h
    have := (tipsL_get hv hc2).1
    rw [e0] at this
    cases ht : tips1 v c with
    | nil => rfl
    | cons t ts => exact absurd (this t (by rw [ht]; simp)) (by simp)
  · exfalso; apply hp; intro hx
    rcases Nat.eq_zero_or_pos sz with h0 | h0
    · subst h0; simp at hx
    · exact h0
theorem mul_pos_r {n sz : Nat} (h : 0 < n * sz) : 0 < sz := by
  rcases Nat.eq_zero_or_pos sz with h0 | h0
  · subst h0; simp at h
  · exact h0

theorem good_bsl {t e sz n : Nat} {zero : List V} {offs : List Nat} {ps : List (Nat × Value)} {vs r : List V} (h : St lim B F S bl (vs.zip (ps.map (·.2))) H w) (hB : B ≤ w.heap.size) (hvs : RepL S bl w vs (ps.map (·.2)))
    (ht : P.underlying t = some (.slice e)) (hsz : szIs P e sz = true) (hz : if n * sz = 0 then zero.isEmpty = true else zeroIs P e zero = true ∧ zero.length = sz)
    (hp : ps.map (fun p => (some (p.1 * sz, sz) : Option (Nat × Nat))) = (offs.map (·, sz)).map some) (hle : n * sz ≤ 16777216) (hr : fillV (reps zero n) (offs.map (·, sz)) vs = some r) :
    Good P lim B F S bl H w (.sl (some sz) n (r.map V.dis1)) H ((do pure (.value (← Instr.buildSlice t n ps.toArray)) : Sem Next).run P w) := by
  have hZ : ∃ Z : Array Value, ((n * sz = 0 ∧ Z = #[]) ∨ (¬ n * sz = 0 ∧ ∃ z, (zeroValue e).run P w = .ok z w ∧ Z = z.cells)) ∧ RepL S bl w (reps zero n) ((Array.range (n * sz)).map (Z[· % Z.size]!)).toList ∧ (∀ v ∈ reps zero n, v.single = true) := by
    by_cases h0 : n * sz = 0
    · rw [if_pos h0] at hz
      refine ⟨#[], .inl ⟨h0, rfl⟩, ?_, ?_⟩
      · have : zero = [] := by simpa using hz
        subst this
        have : reps [] n = [] := List.length_eq_zero_iff.1 (by simp [reps_length])
        rw [this, h0]; simp [RepL]
      · have : zero = [] := by simpa using hz
        subst this
        exact reps_single (by simp) n
    · rw [if_neg h0] at hz
      obtain ⟨z, hz1, hz2⟩ := run_zero (w := w) hz.1
      obtain ⟨z3, z4⟩ := okVs_rep (S := S) (bl := bl) (w := w) zero z.cells.toList hz2
      exact ⟨z.cells, .inr ⟨h0, z, hz1, rfl⟩, reps_rep z3 hz.2 (fun hx => mul_pos_r hx), reps_single z4 n⟩
  obtain ⟨Z, hZ1, hZ2, hZ3⟩ := hZ
  obtain ⟨cells, d1, d2, d3, d4, d5⟩ := fill_sound (S := S) (bl := bl) (w := w) (place := fun i => some (i * sz, sz)) _ ps vs _ r _ hp hvs hZ2 hZ3 hr
  have hlen : r.length = n * sz := by
    rw [fillV_length hr, reps_length]
    by_cases h0 : n * sz = 0
    · rw [if_pos h0] at hz
      have : zero = [] := by simpa using hz
      subst this; simp [h0]
    · rw [if_neg h0] at hz; rw [hz.2]
  have hcl : cells.size = n * sz := by rw [← Array.length_toList, ← ((RepL_iff _ _).1 d2).1, hlen]
  obtain ⟨S', g1, g2⟩ := h.nil.newSl (e := e) (lo := 0) (hi := 0) (n := n) (cap := n) (sz := sz) (ex := []) hB d2.dis1 (fun v hv => by obtain ⟨u, hu, rfl⟩ := List.mem_map.1 hv; exact V.dis1_single (d3 u hu)) (carr := cells) (by simp) (fun o _ => by omega) (by simp [hlen]) ⟨Nat.le_refl _, by omega⟩
  refine ⟨_, _, S', bl, .inl ?_, g1, g2⟩
  simp only [Instr.buildSlice, Sem.run_bind, run_und ht, Result.andThen_ok, run_size hsz, Sem.run_ite]
  rw [if_neg (by omega)]
  rcases hZ1 with ⟨h0, rfl⟩ | ⟨h0, z, hz1, rfl⟩
  · rw [if_pos h0]
    simp only [Sem.run_bind, Sem.run_pure, Result.andThen_ok, d1, newRow, run_newObj]
  · rw [if_neg h0]
    simp only [Sem.run_bind, Sem.run_pure, Result.andThen_ok, hz1, d1, newRow, run_newObj]

theorem good_mks {t e sz bytes : Nat} {zero : List V} {p q r : V} {H' : Heap} {a b : Value} (h : St lim B F S bl [(p, a), (q, b)] H w) (hB : B ≤ w.heap.size) (ht : P.underlying t = some (.slice e)) (hsz : szIs P e sz = true) (hby : bytesIs P e bytes = true)
    (hz : zeroIs P e zero = true) (hzl : zero.length = sz) (hpos : 0 < sz) (hr : aMks sz bytes zero H [p, q] = some (r, H')) : Good P lim B F S bl H w r H' ((do pure (.value (← Instr.makeSlice t a b)) : Sem Next).run P w) := by
  have h1 : Rep S bl w p a := h.rep _ (List.mem_cons_self ..)
  have h2 : Rep S bl w q b := h.rep (q, b) (by simp)
  cases p <;> try (simp [aMks] at hr; done)
  rename_i k l
  cases q <;> try (simp [aMks] at hr; done)
  rename_i j c
  simp only [aMks] at hr
  split at hr
  · rename_i hc
    cases hr
    obtain ⟨c1, c2, c3, c4⟩ := hc
    obtain rfl := h1.int_inv
    obtain rfl := h2.int_inv
    obtain ⟨z, hz1, hz2⟩ := run_zero (w := w) hz
    obtain ⟨i, hi1, hi2⟩ := run_bytes (w := w) hby
    obtain ⟨z3, z4⟩ := okVs_rep (S := S) (bl := bl) (w := w) zero z.cells.toList hz2
    have wl : IntKind.i64.wrap l = l := by unfold IntKind.wrap; simp [IntKind.bits, IntKind.signed]; omega
    have wc : IntKind.i64.wrap c = c := by unfold IntKind.wrap; simp [IntKind.bits, IntKind.signed]; omega
    have hrow : ((Array.range (c.toNat * sz)).map (z.cells[· % z.cells.size]!)).toList = ((Array.range (c.toNat * sz)).map (z.cells[· % z.cells.size]!)).toList ++ [] := by simp
    have e0 := reps_tips (n := c.toNat) hz2 hzl
    obtain ⟨g1, g2⟩ := good_new (e := e) h.nil hB (reps_rep (n := c.toNat) z3 hzl (fun _ => hpos)) (reps_single z4 _) (by rw [e0]; intro _ k; cases k) (by rw [e0]; intro x; simp [blks]) hrow
    refine ⟨.slice (some ⟨w.heap.size, 0, none⟩) l.toNat c.toNat, _, _, _, .inl ?_, g1.add0 ?_ rfl, g2⟩
    · have hn0 : ¬ c.toNat * sz = 0 ∨ c.toNat * sz = 0 := by omega
      simp only [Instr.makeSlice, Sem.run_bind, run_und ht, Result.andThen_ok, asInt, asIntOf, Sem.run_pure, hi1, wl, wc, hi2]
      have hcond : (decide (c < 0) || decide ((bytes : Int) * c > 2 ^ 48) || decide (l < 0) || decide (l > c)) = false := by
        simp only [Bool.or_eq_false_iff, decide_eq_false_iff_not]
        refine ⟨⟨⟨by omega, ?_⟩, by omega⟩, by omega⟩
        have : (2:Int)^48 = 281474976710656 := by decide
        omega
      simp only [Bool.or_assoc] at hcond ⊢
      rw [hcond]
      simp only [Bool.false_eq_true, if_false, Sem.run_bind, run_askRoom, Result.andThen_ok, run_size hsz]
      by_cases h0 : c.toNat * sz = 0
      · have hc0 : c.toNat = 0 := by
          rcases Nat.mul_eq_zero.1 h0 with x | x
          · exact x
          · omega
        have hr0 : Array.range 0 = #[] := rfl
        simp [h0, newRow, hr0]
      · simp only [h0, if_false, Sem.run_bind, hz1, Result.andThen_ok, Sem.run_pure, newRow, run_newObj]
    · simp only [Rep]; exact ⟨w.heap.size, c.toNat, by rw [h.len]; simp, ⟨by omega, Nat.le_refl _⟩, rfl, _, _, _, push_new, by simp⟩
  · cases hr

/-! ### Appending -/
theorem growBy_le (newLen : Nat) : ∀ (r c : Nat), 256 ≤ c → c ≤ 2 * newLen → Builtin.growBy newLen r c ≤ 2 * newLen
  | 0, c, _, h => by simpa [Builtin.growBy] using h
  | r + 1, c, hc, h => by
    unfold Builtin.growBy
    split
    · exact h
    · exact growBy_le newLen r _ (by omega) (by omega)
theorem nextslicecap_le {need cap : Nat} (h : cap < need) : Builtin.nextslicecap need cap ≤ 2 * need := by
  unfold Builtin.nextslicecap
  split
  · omega
  · split
    · omega
    · exact growBy_le need 4 cap (by omega) (by omega)

/-- What is appended, as the model reads it. -/
theorem run_tail {sz m : Nat} {x : V} {b : Value} {us : List V} (h : St lim B F S bl vals H w) (hx : Rep S bl w x b) (ht : tail sz x H = some (m, us)) :
    us.length = m * sz ∧ (∀ v ∈ us, v.single = true) ∧ ∃ es : List Value, RepL S bl w us es ∧ (Builtin.lenOf b).run P w = .ok m w ∧ (Builtin.firstCells sz m b).run P w = .ok es.toArray w := by
  cases x <;> try (simp [tail] at ht; done)
  · rename_i l
    simp only [tail] at ht
    split at ht
    · rename_i hs
      subst hs
      cases ht
      obtain rfl := hx.str_inv
      refine ⟨by simp, fun v hv => by obtain ⟨u, _, rfl⟩ := List.mem_map.1 hv; rfl, l.map (fun c => .int .u8 c.toNat), ?_, ?_, ?_⟩
      · have : ∀ l : List UInt8, RepL S bl w (l.map fun c => V.int .u8 c.toNat) (l.map fun c => Value.int .u8 c.toNat) := by
          intro l
          induction l with
          | nil => simp [RepL]
          | cons c l ih => simp only [List.map_cons, RepL]; exact ⟨_, _, rfl, rep_int .., ih⟩
        exact this l
      · simp [Builtin.lenOf, ByteArray.size]
      · simp [Builtin.firstCells, ByteArray.extract, ByteArray.copySlice]
    · cases ht
  · rename_i own n ds
    simp only [tail] at ht
    split at ht
    · rename_i hs
      cases ht
      simp only [Rep] at hx
      obtain ⟨ad, cap, rfl, hle, hnil, hC⟩ := hx
      cases ad with
      | none =>
        obtain ⟨rfl, rfl, rfl⟩ := hnil rfl
        exact ⟨hs, by simp, [], by simp [RepL], rfl, rfl⟩
      | some ad =>
        obtain ⟨s1, s2⟩ := hC ad rfl
        obtain ⟨es, a1, a2, a3⟩ := s2.cells
        refine ⟨hs, a3, es, a1, rfl, ?_⟩
        simp only [Builtin.firstCells]
        have hl2 := ((RepL_iff _ _).1 a1).1
        by_cases hc0 : cap = 0
        · obtain rfl : m = 0 := by omega
          rw [Nat.zero_mul] at hs ⊢
          obtain rfl : es = [] := List.length_eq_zero_iff.1 (by omega)
          exact run_loadCells0
        · rw [addr_eta (s1 hc0)]
          exact run_loadCells P (by omega) fun j c hj => (a2 j c hj).1
    · cases ht
  · rename_i sz' id off n k
    simp only [tail, Option.map_eq_some_iff] at ht
    obtain ⟨ds, hds, e⟩ := ht
    cases e
    simp only [Rep] at hx
    obtain ⟨bb, cap, hb, hle, rfl, _⟩ := hx
    obtain ⟨hl, es, a1, a2, a3⟩ := h.cells hds hb
    refine ⟨by simpa using hl, fun v hv => by obtain ⟨u, hu, rfl⟩ := List.mem_map.1 hv; exact V.dis1_single (a3 u hu), es, a1.dis1, rfl, ?_⟩
    simp only [Builtin.firstCells]
    exact run_loadCells P (by have := ((RepL_iff _ _).1 a1).1; omega) a2
  · simp only [tail] at ht
    cases ht
    simp only [Rep] at hx
    subst hx
    exact ⟨by simp, by simp, [], by simp [RepL], rfl, rfl⟩

theorem St.drew (h : St lim B F S bl vals H w) : St lim B F S bl vals H { w with drawn := w.drawn + 1 } ∧ Ext lim B F S bl H w S bl H { w with drawn := w.drawn + 1 } :=
  ⟨h.world (Nat.le_refl _) (fun _ _ => rfl) ⟨fun _ _ x => x, fun _ _ _ => rfl, fun _ _ x => x⟩ fun b o x => .inl x,
   ⟨⟨fun _ _ x => x, fun _ _ _ => rfl, fun _ _ x => x⟩, fun _ _ => ⟨rfl, fun _ x => x⟩, ⟨rfl, rfl, rfl, Nat.le_refl _, fun _ _ => rfl⟩, fun _ _ e => e, Nat.le_refl _, fun _ _ => ⟨fun _ _ _ _ => rfl, rfl⟩⟩⟩

theorem bytes_info {t : TypeId} {n : Nat} (h : bytesIs P t n = true) : ∃ i, P.info? t = some i ∧ i.bytes = n := by
  unfold bytesIs at h
  split at h
  · rename_i i hi; simp only [beq_iff_eq] at h; exact ⟨i, hi, h⟩
  · cases h
theorem hrow2 {e z n m newCap : Nat} {zz : Value} {rest : Array Value} {cs us : List V} {os es : List Value} {w' : World} (hz : (zeroValue e).run P w' = .ok zz w') (hsz : zz.cells.size = z) (hrest : Builtin.zeroCells zz.cells (newCap - (n + m)) = rest)
    (o1 : RepL S bl w' cs os) (f1 : RepL S bl w' us es) (hcs : cs.length = n * z) (hum : us.length = m * z) (hnc : n + m ≤ newCap) : newCap * z ≤ (os.toArray ++ es.toArray ++ rest).size := by
  have a1 := ((RepL_iff _ _).1 o1).1
  have a2 := ((RepL_iff _ _).1 f1).1
  have a3 : rest.size = (newCap - (n + m)) * z := by rw [← hrest, ← hsz]; simp [Builtin.zeroCells]
  have a4 : newCap * z = (n + m) * z + (newCap - (n + m)) * z := by rw [← Nat.add_mul]; congr 1; omega
  simp only [Array.size_append, List.size_toArray, a3]
  rw [a4, Nat.add_mul]
  omega
theorem run_append {t u e sz bytes : Nat} {d : TypeDesc} {ats : Array TypeId} {ty : TypeId} {s x r : V} {a b : Value} (h : St lim B F S bl [(s, a), (x, b)] H w) (hB : B ≤ w.heap.size)
    (h0 : ats[0]? = some t) (h1 : ats[1]? = some u) (ht : P.underlying t = some (.slice e)) (hu : P.underlying u = some d) (hd : ∀ k, d ≠ .int k) (hsz : szIs P e sz = true) (hby : bytesIs P e bytes = true) (hpos : 0 < sz) (hbpos : 0 < bytes)
    (hzero2 : ∀ w', ∃ z, (zeroValue e).run P w' = .ok z w' ∧ z.cells.size = sz) (hr : appendTo sz bytes s x H = some r) :
    ∃ c w' S', (Builtin.append_ ats ty #[a, b]).run P w = .ok c w' ∧ St lim B F S' bl [(r, c)] H w' ∧ Ext lim B F S bl H w S' bl H w' := by
  have hs : Rep S bl w s a := h.rep _ (List.mem_cons_self ..)
  have hx : Rep S bl w x b := h.rep (x, b) (by simp)
  cases s <;> try (simp [appendTo] at hr; done)
  rename_i own n cs
  cases own with
  | none => simp [appendTo] at hr
  | some z =>
    simp only [appendTo] at hr
    split at hr
    · rename_i hzn
      obtain ⟨rfl, hcs⟩ := hzn
      simp only [Option.bind_eq_some_iff] at hr
      obtain ⟨⟨m, us⟩, htl, hr⟩ := hr
      split at hr
      · rename_i hroom
        cases hr
        simp only at hroom ⊢
        obtain ⟨hum, husng, es, e1, e2, e3⟩ := run_tail (P := P) h hx htl
        have hue := ((RepL_iff us es).1 e1).1
        have hs0 := hs
        simp only [Rep] at hs
        obtain ⟨ad, cap, rfl, hle, hnil, hC⟩ := hs
        obtain ⟨i, hinfo, hi2⟩ := bytes_info hby
        have hneed : n + m ≤ 140737488355328 := by
          have h1 : (n + m) * 1 ≤ (n + m) * bytes := Nat.mul_le_mul_left _ hbpos
          unfold room at hroom; omega
        have harr0 : (#[Value.slice ad n cap, b] : Array Value)[0]? = some (.slice ad n cap) := rfl
        have harr1 : (#[Value.slice ad n cap, b] : Array Value)[1]? = some b := rfl
        by_cases hcap : n + m ≤ cap
        · -- in place
          cases ad with
          | none =>
            obtain ⟨rfl, rfl, rfl⟩ := hnil rfl
            have hm0 : m = 0 := by omega
            subst hm0
            have hu0 : us = [] := List.length_eq_zero_iff.1 (by rw [hum]; simp)
            subst hu0
            refine ⟨.slice none 0 0, w, S, ?_, h.nil.add0 (okV_rep (.sl (some z) (0 + 0) ([] ++ [])) (.slice none 0 0) rfl) rfl, Ext.refl _ _ _ _ _ _ _⟩
            simp only [Builtin.append_, h0, h1, harr0, harr1, Sem.run_bind, run_und ht, Result.andThen_ok, run_size hsz]
            simp only [Sem.run_bind, run_und hu, Result.andThen_ok, Sem.run_pure]
            have hd' : (match d with | .int _ => true | _ => false) = false := by cases d <;> first | rfl | exact absurd rfl (hd _)
            simp only [hd', Bool.false_eq_true, if_false, e2, Result.andThen_ok, Nat.zero_add, Nat.le_refl, if_true, Bool.not_false, e3, Sem.run_bind, Sem.run_pure]
          | some ad =>
            obtain ⟨s1, s2⟩ := hC ad rfl
            obtain ⟨S', g1, g2⟩ := St.appendIn (vals := [(x, b)]) h e1 husng hcs hum hcap
            refine ⟨.slice (some ad) (n + m) cap, _, S', ?_, g1.sub (fun p hp => by simp at hp; subst hp; simp) (fun t ht => by simp only [vtips, List.append_nil] at ht ⊢; exact List.mem_append_left _ ht) (fun q => by simp only [vtips, blks, List.map_append, List.count_append]; simp), g2⟩
            have hstore : (storeCells (ad.add (n * z)) es 0).run P w = .ok () (setCells w ad.block (ad.off + n * z) es) := by
              by_cases hm : es = []
              · subst hm; simp [storeCells, setCells]
              · rw [addr_eta (s1 (by
                  rintro rfl
                  obtain rfl : m = 0 := by omega
                  have := ((RepL_iff _ _).1 e1).1
                  rw [hum, Nat.zero_mul] at this
                  exact hm (List.length_eq_zero_iff.1 this.symm))), add_none]
                have hes : 0 < es.length := List.length_pos_iff.2 hm
                have hncap : ¬ cap ≤ n := by
                  intro hx'
                  have : m = 0 := by omega
                  subst this
                  omega
                have ht0 := (h.tip ⟨ad.block, ad.off, n, cap, z⟩ (.inl (by simp [vtips, tips, tips2, tips1, hncap]))).1
                obtain ⟨carr, e', lo, hi, q1, q2, q3⟩ := ht0.ex
                simp only at q1 q2 q3
                have hmul : (n + m) * z ≤ cap * z := Nat.mul_le_mul_right z hcap
                rw [Nat.add_mul] at hmul
                have := run_storeCells P (b := ad.block) (o := ad.off + n * z) es 0 w carr e' lo hi q1 (by omega) (fun j hj hj' => q3 j (by omega) hj') (e1.oneCell husng)
                rwa [Nat.add_zero] at this
            simp only [Builtin.append_, h0, h1, harr0, harr1, Sem.run_bind, run_und ht, Result.andThen_ok, run_size hsz]
            simp only [Sem.run_bind, run_und hu, Result.andThen_ok, Sem.run_pure]
            have hd' : (match d with | .int _ => true | _ => false) = false := by cases d <;> first | rfl | exact absurd rfl (hd _)
            simp only [hd', Bool.false_eq_true, if_false, e2, Result.andThen_ok, hcap, if_true, Bool.not_false, e3, Sem.run_bind, hstore, Sem.run_pure]
        · -- a new row
          obtain ⟨h', hx0⟩ := h.drew
          obtain ⟨_, _, es', f1, f2, f3⟩ := run_tail (P := P) h' (show Rep S bl _ x b from h'.rep (x, b) (by simp)) htl
          obtain ⟨zz, hz, hzsz⟩ := hzero2 { w with drawn := w.drawn + 1 }
          have hold : ∃ os : List Value, RepL S bl { w with drawn := w.drawn + 1 } cs os ∧ (∀ v ∈ cs, v.single = true) ∧ (Builtin.firstCells z n (.slice ad n cap)).run P { w with drawn := w.drawn + 1 } = .ok os.toArray { w with drawn := w.drawn + 1 } := by
            have hs1 := h'.rep (.sl (some z) n cs, .slice ad n cap) (List.mem_cons_self ..)
            simp only [Rep] at hs1
            obtain ⟨ad', cap', he, _, hnil', hC'⟩ := hs1
            cases he
            cases ad with
            | none =>
              obtain ⟨rfl, rfl, rfl⟩ := hnil' rfl
              exact ⟨[], by simp [RepL], by simp, rfl⟩
            | some ad =>
              obtain ⟨s1, s2⟩ := hC' ad rfl
              obtain ⟨os, a1, a2, a3⟩ := s2.cells
              refine ⟨os, a1, a3, ?_⟩
              simp only [Builtin.firstCells]
              have hl2 := ((RepL_iff _ _).1 a1).1
              by_cases hc0 : cap = 0
              · obtain rfl : n = 0 := by omega
                rw [Nat.zero_mul] at hcs ⊢
                obtain rfl : os = [] := List.length_eq_zero_iff.1 (by omega)
                exact run_loadCells0
              · rw [addr_eta (s1 hc0)]
                exact run_loadCells P (by omega) fun j c hj => (a2 j c hj).1
          obtain ⟨os, o1, o2, o3⟩ := hold
          generalize hq : (Question.appendCap (n + m) cap e).cut (w.tape w.drawn (Question.appendCap (n + m) cap e)) = newCap
          have hnc : n + m ≤ newCap := by rw [← hq]; simp only [Question.cut]; omega
          have hcl : (cs ++ us).length = (n + m) * z := by rw [List.length_append, hcs, hum, Nat.add_mul]
          generalize hrest : (Builtin.zeroCells zz.cells (newCap - (n + m))) = rest
          have hrow : (os.toArray ++ es'.toArray ++ rest).toList = (os ++ es') ++ rest.toList := by simp
          obtain ⟨S', g1, g2⟩ := h'.nil.newSl (e := e) (lo := 0) (hi := 0) (n := n + m) (cap := newCap) (sz := z) hB (RepL_append o1 f1) (fun v hv => (List.mem_append.1 hv).elim (o2 v) (husng v)) hrow (fun o _ => by omega) hcl ⟨hnc, hrow2 hz hzsz hrest o1 f1 hcs hum hnc⟩
          refine ⟨_, _, S', ?_, g1, hx0.trans g2⟩
          simp only [Builtin.append_, h0, h1, harr0, harr1, Sem.run_bind, run_und ht, Result.andThen_ok, run_size hsz]
          simp only [Sem.run_bind, run_und hu, Result.andThen_ok, Sem.run_pure]
          have hd' : (match d with | .int _ => true | _ => false) = false := by cases d <;> first | rfl | exact absurd rfl (hd _)
          have hns : ¬ (Builtin.nextslicecap (n + m) cap * i.bytes > 2 ^ 48) := by
            have h1 := nextslicecap_le (need := n + m) (cap := cap) (by omega)
            have h2 : Builtin.nextslicecap (n + m) cap * bytes ≤ 2 * (n + m) * bytes := Nat.mul_le_mul_right _ h1
            rw [Nat.mul_assoc] at h2
            rw [hi2]
            unfold room at hroom
            omega
          have hb0 : ¬ (i.bytes = 0) := by omega
          simp only [hd', Bool.false_eq_true, if_false, e2, Result.andThen_ok, hcap, Bool.not_false, if_true, Sem.run_bind, run_info hinfo, hb0, or_self, and_false, hns, run_choose, Question.forced, hq, run_askRoom, o3, f3, hz, hrest, newRow, run_newObj, Sem.run_pure]
      · cases hr
    · cases hr
end
end Go.Abs
