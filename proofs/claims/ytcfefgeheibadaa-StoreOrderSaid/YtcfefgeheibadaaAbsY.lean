/-
  Each operation of AbsA does what GoSem's does: building, new objects, stores, appends.
-/
import Derived.Test.YtcfefgeheibadaaAbsX
namespace Go.Abs
open Go.RowKit (Below)
set_option linter.unusedVariables false
set_option linter.unusedSimpArgs false

section
variable {P : Program} {lim : Option Nat} {B : Nat} {F : List Nat} {S : Nat → Nat → Prop} {bl : List Nat} {vals : List (V × Value)} {H : Heap} {w : World}

/-! ### Building -/
/-- The cells of a value that may be laid into memory. -/
theorem boxy_cells {v : V} {c : Value} (h : Rep S bl w v c) (hb : v.boxy = true) : RepL S bl w v.cells c.cells.toList ∧ (∀ u ∈ v.cells, u.single = true) ∧ tips v c = tipsL v.cells c.cells.toList := by
  cases v with
  | tup => cases hb
  | via => cases hb
  | agg cs =>
    obtain ⟨a1, a2⟩ := h.cells (.inr ⟨cs, rfl⟩)
    obtain ⟨a, rfl, _⟩ := h.agg_inv
    exact ⟨a1, a2, rfl⟩
  | _ =>
    obtain ⟨a1, a2⟩ := h.cells (.inl rfl)
    refine ⟨a1, a2, ?_⟩
    rw [(h.oneCell rfl).2]
    simp [V.cells, tips, tips2, tipsL]

theorem zipIdx_set : ∀ (xs : List Value) (off k : Nat) (cells : Array Value), ((xs.zipIdx k).foldl (fun cs (p : Value × Nat) => cs.setIfInBounds (off + p.2) p.1) cells).toList =
    if off + k + xs.length ≤ cells.size then cells.toList.take (off + k) ++ xs ++ cells.toList.drop (off + k + xs.length) else ((xs.zipIdx k).foldl (fun cs (p : Value × Nat) => cs.setIfInBounds (off + p.2) p.1) cells).toList
  | [], off, k, cells => by simp
  | x :: xs, off, k, cells => by
    split
    · rename_i hle
      simp only [List.length_cons] at hle
      simp only [List.zipIdx_cons, List.foldl_cons]
      rw [zipIdx_set xs off (k + 1) _, if_pos (by simp; omega)]
      simp only [Array.toList_setIfInBounds, List.length_cons]
      have hlt : off + k < cells.toList.length := by simp; omega
      rw [show off + (k + 1) = off + k + 1 by omega]
      rw [List.take_set, List.drop_set_of_lt (by omega)]
      have : (cells.toList.take (off + k + 1)).set (off + k) x = cells.toList.take (off + k) ++ [x] := by
        rw [List.take_succ_eq_append_getElem hlt]
        rw [List.set_append_right _ _ (by simp; omega)]
        simp only [List.length_take]
        rw [show off + k - min (off + k) cells.toList.length = 0 by omega]
        rfl
      rw [this]
      simp [List.append_assoc, show off + k + 1 + xs.length = off + k + (xs.length + 1) by omega]
    · rfl
theorem foldl_zip (xs : Array Value) (off : Nat) (cells : Array Value) (h : off + xs.size ≤ cells.size) : (xs.zipIdx.foldl (fun cs (p : Value × Nat) => cs.setIfInBounds (off + p.2) p.1) cells).toList = cells.toList.take off ++ xs.toList ++ cells.toList.drop (off + xs.size) := by
  have := zipIdx_set xs.toList off 0 cells
  rw [if_pos (by simpa using h)] at this
  simp only [Nat.add_zero, Array.length_toList] at this
  rw [← this, ← Array.foldl_toList]
  have e : xs.zipIdx.toList = xs.toList.zipIdx := by simp [Array.zipIdx, List.mapIdx_eq_zipIdx_map]
  rw [e]

theorem RepL.laid {cs xs : List V} {ds es : List Value} {off : Nat} (h : RepL S bl w cs ds) (k : RepL S bl w xs es) : RepL S bl w (lay cs off xs) (ds.take off ++ es ++ ds.drop (off + es.length)) := by
  have hl := ((RepL_iff xs es).1 k).1
  unfold lay
  rw [← hl]
  have h1 := h.piece 0 off
  simp only [List.drop_zero] at h1
  have h2 := h.piece (off + xs.length) cs.length
  have e1 : (cs.drop (off + xs.length)).take cs.length = cs.drop (off + xs.length) := List.take_of_length_le (by simp)
  have hlc := ((RepL_iff cs ds).1 h).1
  have e2 : (ds.drop (off + xs.length)).take cs.length = ds.drop (off + xs.length) := List.take_of_length_le (by simp; omega)
  rw [e1, e2] at h2
  exact RepL_append (RepL_append h1 k) h2
theorem lay_tips {cs xs : List V} {ds es : List Value} {off : Nat} (hl : cs.length = ds.length) (hx : xs.length = es.length) : (∀ t ∈ tipsL (lay cs off xs) (ds.take off ++ es ++ ds.drop (off + es.length)), t ∈ tipsL cs ds ∨ t ∈ tipsL xs es) ∧
    ∀ x, (blks (tipsL (lay cs off xs) (ds.take off ++ es ++ ds.drop (off + es.length)))).count x ≤ (blks (tipsL cs ds)).count x + (blks (tipsL xs es)).count x := by
  unfold lay
  rw [tipsL_append (by simp [hl, hx]), tipsL_append (by simp [hl]), ← hx]
  have e : tipsL cs ds = tipsL (cs.take off) (ds.take off) ++ (tipsL ((cs.drop off).take xs.length) ((ds.drop off).take xs.length) ++ tipsL (cs.drop (off + xs.length)) (ds.drop (off + xs.length))) := by
    rw [← tipsL_append (by simp [hl]), ← List.drop_drop, ← List.drop_drop, List.take_append_drop, List.take_append_drop, ← tipsL_append (by simp [hl]), List.take_append_drop, List.take_append_drop]
  rw [e]
  refine ⟨fun t ht => ?_, fun x => by simp only [blks, List.map_append, List.count_append]; omega⟩
  simp only [List.mem_append] at ht ⊢
  rcases ht with (ht | ht) | ht
  · exact .inl (.inl ht)
  · exact .inr ht
  · exact .inl (.inr (.inr ht))
theorem lay_length {cs xs : List V} {off : Nat} (h : off + xs.length ≤ cs.length) : (lay cs off xs).length = cs.length := by unfold lay; simp; omega
theorem lay_single {cs xs : List V} {off : Nat} (h : ∀ v ∈ cs, v.single = true) (k : ∀ v ∈ xs, v.single = true) : ∀ v ∈ lay cs off xs, v.single = true := by
  unfold lay
  intro v hv
  simp only [List.mem_append] at hv
  rcases hv with (hv | hv) | hv
  · exact h v (List.mem_of_mem_take hv)
  · exact k v hv
  · exact h v (List.mem_of_mem_drop hv)

/-- The model's filling of cells is the machine's. -/
theorem fill_sound {place : Nat → Option (Nat × Nat)} : ∀ (qs : List (Nat × Nat)) (ps : List (Nat × Value)) (vs : List V) (cs r : List V) (cells : Array Value), ps.map (fun p => place p.1) = qs.map some → RepL S bl w vs (ps.map (·.2)) → RepL S bl w cs cells.toList → (∀ v ∈ cs, v.single = true) → fillV cs qs vs = some r →
    ∃ cells', Instr.fill place cells ps = some cells' ∧ RepL S bl w r cells'.toList ∧ (∀ v ∈ r, v.single = true) ∧ (∀ t ∈ tipsL r cells'.toList, t ∈ tipsL cs cells.toList ∨ t ∈ vtips (vs.zip (ps.map (·.2)))) ∧
      ∀ x, (blks (tipsL r cells'.toList)).count x ≤ (blks (tipsL cs cells.toList)).count x + (blks (vtips (vs.zip (ps.map (·.2))))).count x
  | [], ps, vs, cs, r, cells, hp, hvs, hcs, hs, h => by
    have hps : ps = [] := by cases ps <;> simp_all
    subst hps
    cases vs with
    | nil =>
      simp only [fillV, Option.some.injEq] at h; subst h
      exact ⟨cells, rfl, hcs, hs, fun t ht => .inl ht, fun x => by omega⟩
    | cons => simp [fillV] at h
  | (off, size) :: qs, [], vs, cs, r, cells, hp, hvs, hcs, hs, h => by simp at hp
  | (off, size) :: qs, (i, c) :: ps, vs, cs, r, cells, hp, hvs, hcs, hs, h => by
    simp only [List.map_cons, List.cons.injEq] at hp
    obtain ⟨hp1, hp2⟩ := hp
    cases vs with
    | nil => simp [fillV] at h
    | cons v vs =>
      simp only [fillV] at h
      split at h
      · rename_i hcond
        obtain ⟨hb, hz, hle⟩ := hcond
        simp only [List.map_cons, RepL] at hvs
        obtain ⟨_, _, e, h1, h2⟩ := hvs
        simp only [List.cons.injEq] at e
        obtain ⟨rfl, rfl⟩ := e
        obtain ⟨b1, b2, b3⟩ := boxy_cells h1 hb
        have hl1 := ((RepL_iff _ _).1 b1).1
        have hlc := ((RepL_iff _ _).1 hcs).1
        have hsz : c.cells.size = size := by rw [← Array.length_toList]; omega
        have hcs' : cells.size = cs.length := by rw [← Array.length_toList]; omega
        have hfold := foldl_zip c.cells off cells (by omega)
        have hL := hcs.laid (off := off) b1
        rw [Array.length_toList, ← hfold] at hL
        have hT := lay_tips (off := off) (es := c.cells.toList) hlc hl1
        rw [Array.length_toList, ← hfold] at hT
        obtain ⟨cells', d1, d2, d3, d4, d5⟩ := fill_sound qs ps vs _ r _ hp2 h2 hL (lay_single hs b2) h
        refine ⟨cells', ?_, d2, d3, fun t ht => ?_, fun x => ?_⟩
        · simp only [Instr.fill, hp1]
          rw [if_neg (by simp [hsz]; omega)]
          exact d1
        · simp only [List.map_cons, List.zip_cons_cons, vtips, List.mem_append]
          rcases d4 t ht with d | d
          · rcases hT.1 t d with d | d
            · exact .inl d
            · exact .inr (.inl (by rw [b3]; exact d))
          · exact .inr (.inr d)
        · have := d5 x
          have := hT.2 x
          simp only [List.map_cons, List.zip_cons_cons, vtips, b3, blks, List.map_append, List.count_append] at *
          omega
      · cases h
theorem fillV_length : ∀ {qs : List (Nat × Nat)} {vs cs r : List V}, fillV cs qs vs = some r → r.length = cs.length
  | [], [], cs, r, h => by simp only [fillV, Option.some.injEq] at h; rw [h]
  | [], _ :: _, cs, r, h => by simp [fillV] at h
  | _ :: _, [], cs, r, h => by simp [fillV] at h
  | (off, size) :: qs, v :: vs, cs, r, h => by
    simp only [fillV] at h
    split at h
    · rename_i hc
      rw [fillV_length h, lay_length (by omega)]
    · cases h

theorem run_places {fs : Array Field} (h : ∀ f ∈ fs.toList, (P.info? f.type).isSome = true) :
    (fs.mapM fun f => (do pure (f.offset, ← Go.sizeOf f.type) : Sem (Nat × Nat))).run P w = .ok (fs.map fun f => (f.offset, P.cellsOf f.type)) w := by
  rw [Array.mapM_eq_mapM_toList]
  have key : ∀ l : List Field, (∀ f ∈ l, (P.info? f.type).isSome = true) → (l.mapM fun f => (do pure (f.offset, ← Go.sizeOf f.type) : Sem (Nat × Nat))).run P w = .ok (l.map fun f => (f.offset, P.cellsOf f.type)) w := by
    intro l
    induction l with
    | nil => intro _; rfl
    | cons f l ih =>
      intro hl
      obtain ⟨i, hi⟩ := Option.isSome_iff_exists.1 (hl f (List.mem_cons_self ..))
      have hsz : (Go.sizeOf f.type).run P w = .ok i.size w := run_size (by simp [szIs, hi])
      have hce : P.cellsOf f.type = i.size := by simp [Program.cellsOf, hi]
      simp only [List.mapM_cons, Sem.run_bind, hsz, Result.andThen_ok, Sem.run_pure, ih fun g hg => hl g (List.mem_cons_of_mem _ hg), List.map_cons, hce]
  simp only [Sem.run_map, key fs.toList h, Result.andThen_ok]
  congr 1
  apply Array.ext'
  simp
theorem okParts_spec {fs : Array Field} : ∀ {ps : List (Nat × Operand)} {qs : List (Nat × Nat)} (ρ : Operand → Value), okParts P fs ps qs = true →
    (ps.map fun p => (p.1, ρ p.2)).map (fun p => (fs.map fun f => (f.offset, P.cellsOf f.type))[p.1]?) = qs.map some
  | [], [], _, _ => rfl
  | [], _ :: _, _, h => by simp [okParts] at h
  | _ :: _, [], _, h => by simp [okParts] at h
  | (i, x) :: ps, (off, size) :: qs, ρ, h => by
    simp only [okParts, Bool.and_eq_true] at h
    obtain ⟨h1, h2⟩ := h
    split at h1
    · rename_i f hf
      simp only [Bool.and_eq_true, beq_iff_eq] at h1
      obtain ⟨rfl, h3⟩ := h1
      have hc : P.cellsOf f.type = size := by
        unfold szIs at h3
        split at h3
        · rename_i i' hi'; simp only [beq_iff_eq] at h3; simp [Program.cellsOf, hi', h3]
        · cases h3
      simp only [List.map_cons, List.cons.injEq]
      refine ⟨by rw [Array.getElem?_map, hf]; simp [hc], ?_⟩
      exact okParts_spec ρ h2
    · cases h1
theorem okElems_spec {size : Nat} : ∀ {ps : List (Nat × Operand)} {qs : List Nat} (ρ : Operand → Value), okElems size ps qs = true →
    (ps.map fun p => (p.1, ρ p.2)).map (fun p => (some (p.1 * size, size) : Option (Nat × Nat))) = (qs.map (·, size)).map some
  | [], [], _, _ => rfl
  | [], _ :: _, _, h => by simp [okElems] at h
  | _ :: _, [], _, h => by simp [okElems] at h
  | (i, x) :: ps, off :: qs, ρ, h => by
    simp only [okElems, Bool.and_eq_true, beq_iff_eq] at h
    obtain ⟨rfl, h2⟩ := h
    simp only [List.map_cons, List.cons.injEq]
    exact ⟨trivial, okElems_spec ρ h2⟩

/-- What a filled row says, with its leave to append. -/
theorem quietK_agg {r : List V} {cells : Array Value} (h : St lim B F S bl vals H w) (hr : RepL S bl w r cells.toList) (hs : ∀ v ∈ r, v.single = true) (ht : ∀ t ∈ tipsL r cells.toList, t ∈ vtips vals)
    (hc : ∀ x, (blks (tipsL r cells.toList)).count x ≤ (blks (vtips vals)).count x) : Rep S bl w (.agg r) (.agg cells) ∧ (∀ t ∈ tips (.agg r) (.agg cells), TipOK S w t ∧ B ≤ t.blk) ∧ ∀ x, (blks (tips (.agg r) (.agg cells))).count x ≤ (blks (vtips vals)).count x :=
  ⟨by simp only [Rep]; exact ⟨cells, rfl, hr, hs⟩, fun t k => h.tip t (.inl (ht t k)), hc⟩
theorem q_bldS {t : TypeId} {ps : List (Nat × Value)} {fs : Array Field} {zero : List V} {qs : List (Nat × Nat)} {vs r : List V} (h : St lim B F S bl (vs.zip (ps.map (·.2))) H w) (hvs : RepL S bl w vs (ps.map (·.2))) (hz : zeroIs P t zero = true)
    (ht : P.underlying t = some (.struct fs)) (hfs : ∀ f ∈ fs.toList, (P.info? f.type).isSome = true) (hp : ps.map (fun p => (fs.map fun f => (f.offset, P.cellsOf f.type))[p.1]?) = qs.map some) (hr : fillV zero qs vs = some r) :
    QuietK P B S bl w (vs.zip (ps.map (·.2))) (.agg r) (Instr.build t ps.toArray) := by
  obtain ⟨z, hz1, hz2⟩ := run_zero (w := w) hz
  obtain ⟨z3, z4⟩ := okVs_rep (S := S) (bl := bl) (w := w) zero z.cells.toList hz2
  obtain ⟨cells, d1, d2, d3, d4, d5⟩ := fill_sound (S := S) (bl := bl) (w := w) qs ps vs zero r z.cells hp hvs z3 z4 hr
  have e0 := okVs_tipsL zero z.cells.toList hz2
  obtain ⟨g1, g2, g3⟩ := quietK_agg h d2 d3 (fun t k => (d4 t k).elim (fun x => by rw [e0] at x; cases x) id) (fun x => by have := d5 x; rw [e0] at this; simpa [blks] using this)
  refine ⟨.agg cells, ?_, g1, g2, g3⟩
  simp only [Instr.build, Sem.run_bind, hz1, Result.andThen_ok, run_und ht, run_places hfs, d1, Sem.run_pure]
theorem q_bldA {t e n : Nat} {i : TypeInfo} {ps : List (Nat × Value)} {zero : List V} {qs : List (Nat × Nat)} {vs r : List V} (h : St lim B F S bl (vs.zip (ps.map (·.2))) H w) (hvs : RepL S bl w vs (ps.map (·.2))) (hz : zeroIs P t zero = true)
    (ht : P.underlying t = some (.array n e)) (hi : P.info? e = some i) (hp : ps.map (fun p => (some (p.1 * i.size, i.size) : Option (Nat × Nat))) = qs.map some) (hr : fillV zero qs vs = some r) :
    QuietK P B S bl w (vs.zip (ps.map (·.2))) (.agg r) (Instr.build t ps.toArray) := by
  obtain ⟨z, hz1, hz2⟩ := run_zero (w := w) hz
  obtain ⟨z3, z4⟩ := okVs_rep (S := S) (bl := bl) (w := w) zero z.cells.toList hz2
  obtain ⟨cells, d1, d2, d3, d4, d5⟩ := fill_sound (S := S) (bl := bl) (w := w) (place := fun j => some (j * i.size, i.size)) qs ps vs zero r z.cells hp hvs z3 z4 hr
  have e0 := okVs_tipsL zero z.cells.toList hz2
  obtain ⟨g1, g2, g3⟩ := quietK_agg h d2 d3 (fun t k => (d4 t k).elim (fun x => by rw [e0] at x; cases x) id) (fun x => by have := d5 x; rw [e0] at this; simpa [blks] using this)
  have hsz : (Go.sizeOf e).run P w = .ok i.size w := run_size (by simp [szIs, hi])
  refine ⟨.agg cells, ?_, g1, g2, g3⟩
  simp only [Instr.build, Sem.run_bind, hz1, Result.andThen_ok, run_und ht, hsz, d1, Sem.run_pure]

/-! ### New objects -/
theorem good_new {cs : List V} {carr : Array Value} {e : TypeId} {ex : List Value} {ds : List Value} {us : List (V × Value)} (h : St lim B F S bl us H w) (hB : B ≤ w.heap.size) (hr : RepL S bl w cs ds) (hs : ∀ v ∈ cs, v.single = true)
    (ht : ∀ t ∈ tipsL cs ds, t ∈ vtips us) (hc : ∀ x, (blks (tipsL cs ds)).count x ≤ (blks (vtips us)).count x) (hca : carr.toList = ds ++ ex) :
    St lim B F S (bl ++ [w.heap.size]) [] (H ++ [cs]) { w with heap := w.heap.push (.cells carr e) } ∧ Ext lim B F S bl H w S (bl ++ [w.heap.size]) (H ++ [cs]) { w with heap := w.heap.push (.cells carr e) } := by
  have h0 : St lim B (F ++ blks (tipsL cs ds)) S bl [] H w := by
    have := St.rem (us := us) (vals := []) (by simpa using h)
    exact this.unframe fun x => by have := hc x; simp only [List.count_append]; omega
  exact h0.newObj hB hr hs (fun t k => (h.tip t (.inl (ht t k))).1) hca
theorem good_box {e n : Nat} {p r : V} {H' : Heap} {a : Value} (h : St lim B F S bl [(p, a)] H w) (hB : B ≤ w.heap.size) (hr : aBox n H [p] = some (r, H')) : Good P lim B F S bl H w r H' ((do pure (.value (← Instr.box e a)) : Sem Next).run P w) := by
  simp only [aBox] at hr
  split at hr
  · rename_i hb
    cases hr
    simp only [Bool.and_eq_true] at hb
    obtain ⟨b1, b2, b3⟩ := boxy_cells (show Rep S bl w p a from h.rep _ (List.mem_cons_self ..)) hb.1
    have e1 : vtips [(p, a)] = tipsL p.cells a.cells.toList := by simp [vtips, b3]
    obtain ⟨g1, g2⟩ := good_new (e := e) (ex := []) h hB b1 b2 (by rw [e1]; exact fun _ k => k) (by rw [e1]; exact fun _ => Nat.le_refl _) (carr := a.cells) (by simp)
    refine ⟨.pointer (some ⟨w.heap.size, 0, none⟩), _, _, _, .inl ?_, g1.add0 ?_ rfl, g2⟩
    · simp [Instr.box, newVar, newRow]
    · simp only [Rep]; exact ⟨w.heap.size, by rw [h.len]; simp, rfl⟩
  · cases hr
theorem good_alc {t : TypeId} {zero : List V} (h : St lim B F S bl vals H w) (hB : B ≤ w.heap.size) (hz : zeroIs P t zero = true) : Good P lim B F S bl H w (.ptr H.length 0) (H ++ [zero]) ((do pure (.value (← Instr.alloc t true (.tuple #[]))) : Sem Next).run P w) := by
  obtain ⟨z, hz1, hz2⟩ := run_zero (w := w) hz
  obtain ⟨z3, z4⟩ := okVs_rep (S := S) (bl := bl) (w := w) zero z.cells.toList hz2
  have e0 := okVs_tipsL zero z.cells.toList hz2
  obtain ⟨g1, g2⟩ := good_new (e := t) (ex := []) h.nil hB z3 z4 (by rw [e0]; intro _ k; cases k) (by rw [e0]; intro x; simp [blks]) (carr := z.cells) (by simp)
  refine ⟨.pointer (some ⟨w.heap.size, 0, none⟩), _, _, _, .inl ?_, g1.add0 ?_ rfl, g2⟩
  · simp [Instr.alloc, hz1, newVar, newRow]
  · simp only [Rep]; exact ⟨w.heap.size, by rw [h.len]; simp, rfl⟩
theorem good_bfp {e n : Nat} {p r : V} {a : Value} (h : St lim B F S bl [(p, a)] H w) (hB : B ≤ w.heap.size) (hr : aBfp n [p] = some r) : Good P lim B F S bl H w r H ((do pure (.value (← Instr.box e a)) : Sem Next).run P w) := by
  simp only [aBfp] at hr
  split at hr
  · rename_i hb
    cases hr
    simp only [Bool.and_eq_true] at hb
    obtain ⟨b1, b2, b3⟩ := boxy_cells (show Rep S bl w p a from h.rep _ (List.mem_cons_self ..)) hb.1
    obtain ⟨S', g1, g2⟩ := h.nil.newSl (e := e) (lo := 0) (hi := 0) (n := (p.cells.map V.dis1).length) (cap := (p.cells.map V.dis1).length) (sz := 1) (ex := []) hB b1.dis1 (fun v hv => by obtain ⟨u, hu, rfl⟩ := List.mem_map.1 hv; exact V.dis1_single (b2 u hu)) (carr := a.cells) (by simp) (fun o _ => by omega) (by omega) ⟨Nat.le_refl _, by
      have := ((RepL_iff _ _).1 b1).1; simp at this ⊢; omega⟩
    refine ⟨.pointer (some ⟨w.heap.size, 0, none⟩), _, S', bl, .inl ?_, ?_, g2⟩
    · simp [Instr.box, newVar, newRow]
    · have hrep := g1.rep _ (List.mem_cons_self ..)
      simp only [Rep] at hrep
      obtain ⟨ad, cap, e1, _, _, hC⟩ := hrep
      cases e1
      refine g1.nil.add0 ?_ rfl
      simp only [Rep]
      exact ⟨w.heap.size, 0, rfl, (hC _ rfl).2⟩
  · cases hr
end
end Go.Abs
