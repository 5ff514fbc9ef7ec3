/-
  A row of a region may go ahead of all rows that have nothing to do with it.
-/
import Derived.Test.YtcfefgeheibadaaAbsJ
namespace Go.Abs

section
variable {T : Orc} {pure : FuncId → Bool} {s : Option Nat} {L free fps : List Nat} {conf : List (Nat × Nat × Nat × Nat)}

/-! ### Slices just read from cells lie in L alone -/
theorem evX_sub {x : X} {e e' : Env} {v : V} (h : evX x e = some (v, e')) : ∀ t u, eget e' t = some u → eget e t = some u := by
  cases x with
  | t n => obtain ⟨w, _, e1⟩ := Option.map_eq_some_iff.1 (show (eget e n).map (fun x => (x.dis, e)) = some (v, e') from h); cases e1; exact fun _ _ k => k
  | m n =>
    obtain ⟨w, _, e1⟩ := Option.map_eq_some_iff.1 (show (eget e n).map (fun x => (x, edel e n)) = some (v, e') from h); cases e1
    intro t u k
    rw [eget_edel] at k
    split at k
    · cases k
    · exact k
  | k w => obtain ⟨rfl, rfl⟩ : w = v ∧ e = e' := by simpa [evX] using h
           exact fun _ _ k => k
theorem evs_sub : ∀ {xs : List X} {e e' : Env} {vs : List V}, evs xs e = some (vs, e') → ∀ t u, eget e' t = some u → eget e t = some u
  | [], e, e', vs, h => by
    obtain ⟨rfl, rfl⟩ : [] = vs ∧ e = e' := by simpa [evs] using h
    exact fun _ _ k => k
  | x :: xs, e, e', vs, h => by
    simp only [evs, Option.bind_eq_some_iff, Option.map_eq_some_iff] at h
    obtain ⟨⟨u, e1⟩, h1, ⟨us, e2⟩, h2, h3⟩ := h
    cases h3
    exact fun t v k => evX_sub h1 t v (evs_sub h2 t v k)
theorem LInv.sub {e e' : Env} (h : LInv L e) (k : ∀ t u, eget e' t = some u → eget e t = some u) : LInv L e' := fun t v ht hv => h t v ht (k t v hv)
theorem LInv.put {e : Env} (h : LInv L e) {d : Option Nat} {v : V} (hv : v.noVia = true ∨ ∀ t, d = some t → t ∈ L) : LInv L (putD e d v) := by
  intro t u ht hu
  rw [eget_putD] at hu
  split at hu
  · rename_i hd
    cases hu
    exact hv.resolve_right fun k => ht (k t hd)
  · exact h t u ht hu
theorem step_LInv {i : I} {e e' : Env} {H H' : Heap} {v : V} (hL : LInv L e) (h : step T s i e H = some (v, e', H')) : LInv L e' := by
  cases i with
  | mv x =>
    obtain ⟨p, h1, h2⟩ := Option.map_eq_some_iff.1 (show (evX x e).map (fun r => (r.1, r.2, H)) = some (v, e', H') from h)
    cases h2
    exact hL.sub (evX_sub h1)
  | op o xs => obtain ⟨vs, h1, _⟩ := op_inv h; exact hL.sub (evs_sub h1)
  | pick c x y =>
    simp only [step, Option.bind_eq_some_iff] at h
    obtain ⟨⟨u, e1⟩, h1, h⟩ := h
    cases u <;> try cases h
    obtain ⟨p, h2, h3⟩ := Option.map_eq_some_iff.1 h
    cases h3
    exact (hL.sub (evX_sub h1)).sub (evX_sub h2)
  | exm j t =>
    simp only [step] at h
    split at h
    · rename_i vs hg
      obtain ⟨u, hu, e1⟩ := Option.map_eq_some_iff.1 h
      cases e1
      exact hL.put (d := some t) (.inl rfl)
    · cases h
  | call f xs nw =>
    simp only [step, Option.bind_eq_some_iff] at h
    obtain ⟨⟨vs, e1⟩, h1, h⟩ := h
    split at h
    · obtain ⟨q, _, h3⟩ := Option.map_eq_some_iff.1 h
      cases h3
      exact hL.sub (evs_sub h1)
    · cases h
  | cav x xs =>
    simp only [step, Option.bind_eq_some_iff] at h
    obtain ⟨⟨u, e0⟩, h0, h⟩ := h
    cases u <;> try cases h
    simp only [Option.bind_eq_some_iff] at h
    obtain ⟨⟨vs, e1⟩, h1, h⟩ := h
    split at h
    · obtain ⟨q, _, h3⟩ := Option.map_eq_some_iff.1 h
      cases h3
      exact (hL.sub (evX_sub h0)).sub (evs_sub h1)
    · cases h
  | cam tbl x xs =>
    simp only [step, Option.bind_eq_some_iff] at h
    obtain ⟨⟨u, e0⟩, h0, h⟩ := h
    cases u <;> try cases h
    simp only at h
    split at h
    · simp only [Option.bind_eq_some_iff] at h
      obtain ⟨⟨vs, e1⟩, h1, h⟩ := h
      split at h
      · obtain ⟨q, _, h3⟩ := Option.map_eq_some_iff.1 h
        cases h3
        exact (hL.sub (evX_sub h0)).sub (evs_sub h1)
      · cases h
    · cases h

theorem evX_noVia {x : X} {e e' : Env} {v : V} (hL : LInv L e) (hd : ∀ t ∈ xr x, t ∉ L) (hk : xk x = true) (h : evX x e = some (v, e')) : v.noVia = true := by
  cases x with
  | t n => obtain ⟨w, _, e1⟩ := Option.map_eq_some_iff.1 (show (eget e n).map (fun x => (x.dis, e)) = some (v, e') from h); cases e1; exact V.dis_noVia w
  | m n =>
    obtain ⟨w, hw, e1⟩ := Option.map_eq_some_iff.1 (show (eget e n).map (fun x => (x, edel e n)) = some (v, e') from h); cases e1
    exact hL n _ (hd n (by simp [xr])) hw
  | k w =>
    obtain ⟨rfl, rfl⟩ : w = v ∧ e = e' := by simpa [evX] using h
    simp only [xk, Bool.and_eq_true] at hk
    exact hk.1
theorem evs_noVia : ∀ {xs : List X} {e e' : Env} {vs : List V}, LInv L e → (∀ t ∈ xs.flatMap xr, t ∉ L) → xs.all xk = true → evs xs e = some (vs, e') → ∀ v ∈ vs, v.noVia = true
  | [], e, e', vs, _, _, _, h => by
    obtain ⟨rfl, rfl⟩ : [] = vs ∧ e = e' := by simpa [evs] using h
    simp
  | x :: xs, e, e', vs, hL, hd, hk, h => by
    simp only [evs, Option.bind_eq_some_iff, Option.map_eq_some_iff] at h
    obtain ⟨⟨u, e1⟩, h1, ⟨us, e2⟩, h2, h3⟩ := h
    cases h3
    simp only [List.all_cons, Bool.and_eq_true] at hk
    simp only [List.flatMap_cons, List.mem_append] at hd
    intro v hv
    rcases List.mem_cons.1 hv with rfl | hv
    · exact evX_noVia hL (fun t ht => hd t (.inl ht)) hk.1 h1
    · exact evs_noVia (hL.sub (evX_sub h1)) (fun t ht => hd t (.inr ht)) hk.2 h2 v hv

theorem ntup_noVia {x : Option V} {r : V} (h : x.bind V.ntup = some r) : r.noVia = true := by
  obtain ⟨u, hu, h⟩ := Option.bind_eq_some_iff.1 h
  cases u <;> first | (cases h; rfl) | cases h
theorem bits_noVia {op : BinOp} {k : IntKind} {a b : Int} {r : V} (h : bits op k a b = some r) : r.noVia = true := by
  unfold bits at h
  cases op <;> simp only at h <;> cases h <;> rfl
theorem iop_noVia {op : BinOp} {k : IntKind} {a b : Int} {r : V} (h : iop op k a b = some r) : r.noVia = true := by
  unfold iop at h
  cases op <;> simp only at h <;> first | exact bits_noVia h | (cases h; rfl) | (split at h <;> cases h; rfl)
theorem bin_noVia {op : BinOp} {x y r : V} (h : bin op x y = some r) : r.noVia = true := by
  unfold bin at h
  split at h
  · cases op <;> simp only at h <;> first | exact iop_noVia h | (split at h; exact iop_noVia h; cases h)
  · cases op <;> simp only at h <;> first | (cases h; done) | (cases h; rfl) | (split at h <;> cases h; rfl)
  · cases h
theorem un_noVia {op : UnOp} {x r : V} (h : un op x = some r) : r.noVia = true := by
  unfold un at h
  split at h <;> first | (cases h; rfl) | exact iop_noVia h | exact bits_noVia h | cases h
theorem mxn_noVia {le : Int → Int → Bool} : ∀ {vs : List V} {v r : V}, v.noVia = true → mxn le v vs = some r → r.noVia = true
  | [], v, r, hv, h => by simp only [mxn] at h; cases h; exact hv
  | u :: vs, v, r, hv, h => by
    cases v <;> cases u <;> simp only [mxn] at h <;> first | (cases h; done) | exact mxn_noVia (v := .int _ _) rfl h
theorem appendTo_noVia {sz bytes : Nat} {s x r : V} {H : Heap} (h : appendTo sz bytes s x H = some r) : r.noVia = true := by
  unfold appendTo at h
  split at h
  · split at h
    · obtain ⟨q, _, h2⟩ := Option.bind_eq_some_iff.1 h
      split at h2
      · cases h2; rfl
      · cases h2
    · cases h
  · cases h
theorem apply_noVia {o : O} {vs : List V} {H H' : Heap} {r : V} (hv : (o = .mx ∨ o = .mn) → ∀ v ∈ vs, v.noVia = true) (hl : o ≠ .lv) (hk : (match o with | .kst v => v.noVia | .tas _ _ z => z.noVia | _ => true) = true)
    (h : apply s o vs H = some (r, H')) : r.noVia = true := by
  cases o <;> simp only [apply] at h
  case lv => exact absurd rfl hl
  case kst v => cases h; exact hk
  case bin => have h := (map_H (α := V) h).1; unfold aBin at h; split at h; exact bin_noVia h; cases h
  case beq => have h := (map_H (α := V) h).1; unfold aBeq at h; split at h <;> cases h; rfl
  case peq => have h := (map_H (α := V) h).1; unfold aPeq at h; split at h; (obtain ⟨_, _, e⟩ := Option.map_eq_some_iff.1 h; cases e; rfl); cases h
  case ieq => have h := (map_H (α := V) h).1; unfold aIeq at h; split at h; (obtain ⟨_, _, e⟩ := Option.map_eq_some_iff.1 h; cases e; rfl); cases h
  case un => have h := (map_H (α := V) h).1; unfold aUn at h; split at h; exact un_noVia h; cases h
  case fa => have h := (map_H (α := V) h).1; unfold aFa at h; split at h <;> cases h <;> rfl
  case ix => have h := (map_H (α := V) h).1; unfold aIx at h; split at h <;> first | (split at h <;> cases h; rfl) | cases h
  case ixa => have h := (map_H (α := V) h).1; unfold aIxa at h; split at h <;> first | (split at h <;> cases h; rfl) | cases h
  case ld => have h := (map_H (α := V) h).1; unfold aLd at h; split at h <;> first | (obtain ⟨u, _, e⟩ := Option.map_eq_some_iff.1 h; cases e; exact V.dis1_noVia u) | cases h
  case ldn => have h := (map_H (α := V) h).1; unfold aLdn at h; split at h <;> first | (obtain ⟨u, _, e⟩ := Option.map_eq_some_iff.1 h; cases e; rfl) | (split at h <;> cases h; rfl) | cases h
  case st => unfold aSt at h; split at h <;> first | (split at h <;> cases h; rfl) | cases h
  case stn => unfold aStn at h; split at h <;> first | (split at h <;> cases h; rfl) | cases h
  case nc => have h := (map_H (α := V) h).1; unfold aNc at h; split at h <;> cases h <;> rfl
  case box => unfold aBox at h; split at h <;> first | (split at h <;> cases h; rfl) | cases h
  case bfp => have h := (map_H (α := V) h).1; unfold aBfp at h; split at h <;> first | (split at h <;> cases h; rfl) | cases h
  case alc => split at h <;> cases h; rfl
  case bld => obtain ⟨_, _, e⟩ := Option.map_eq_some_iff.1 h; cases e; rfl
  case bsl => split at h; (obtain ⟨_, _, e⟩ := Option.map_eq_some_iff.1 h; cases e; rfl); cases h
  case fld =>
    have h := (map_H (α := V) h).1; unfold aFld at h
    split at h
    · split at h
      · exact ntup_noVia h
      · split at h <;> cases h; rfl
    · cases h
  case ixs => have h := (map_H (α := V) h).1; unfold aIxs at h; split at h <;> first | (split at h; (obtain ⟨_, _, e⟩ := Option.map_eq_some_iff.1 h; cases e; rfl); cases h) | cases h
  case ixv =>
    have h := (map_H (α := V) h).1; unfold aIxv at h
    split at h
    · split at h
      · split at h
        · exact ntup_noVia h
        · split at h <;> cases h; rfl
      · cases h
    · cases h
  case slc =>
    have h := (map_H (α := V) h).1; unfold aSlc at h
    split at h
    · obtain ⟨⟨l, hh⟩, _, h⟩ := Option.bind_eq_some_iff.1 h
      simp only at h
      split at h <;> cases h; rfl
    · obtain ⟨⟨l, hh⟩, _, h⟩ := Option.bind_eq_some_iff.1 h
      simp only at h
      split at h
      · split at h <;> cases h <;> rfl
      · cases h
    · cases h
  case sls => have h := (map_H (α := V) h).1; unfold aSls at h; split at h <;> first | (obtain ⟨_, _, e⟩ := Option.map_eq_some_iff.1 h; cases e; rfl) | cases h
  case app => have h := (map_H (α := V) h).1; unfold aApp at h; split at h; exact appendTo_noVia h; cases h
  case apv =>
    unfold aApv at h
    split at h
    · split at h
      · split at h
        · obtain ⟨y, _, h⟩ := Option.bind_eq_some_iff.1 h
          obtain ⟨z, hz, e⟩ := Option.map_eq_some_iff.1 h
          cases e
          exact appendTo_noVia hz
        · cases h
      · obtain ⟨z, hz, e⟩ := Option.map_eq_some_iff.1 h
        cases e
        exact appendTo_noVia hz
    · cases h
  case apg =>
    unfold aApg at h
    split at h
    · obtain ⟨q, _, h⟩ := Option.bind_eq_some_iff.1 h
      split at h
      · split at h <;> cases h <;> rfl
      · cases h
    · split at h
      · obtain ⟨cs, _, h⟩ := Option.bind_eq_some_iff.1 h
        obtain ⟨q, _, h⟩ := Option.bind_eq_some_iff.1 h
        split at h
        · split at h <;> cases h; rfl
        · split at h <;> cases h; rfl
      · cases h
    · cases h
  case clr =>
    unfold aClr at h
    split at h
    · split at h
      · obtain ⟨cs, _, h⟩ := Option.bind_eq_some_iff.1 h
        split at h <;> cases h; rfl
      · cases h
    · cases h; rfl
    · cases h; rfl
    · cases h
  case sl3 =>
    have h := (map_H (α := V) h).1; unfold aSl3 at h
    split at h
    · split at h
      · split at h <;> cases h <;> rfl
      · cases h
    · cases h
  case len => have h := (map_H (α := V) h).1; unfold aLen at h; split at h <;> cases h <;> rfl
  case mx =>
    have h := (map_H (α := V) h).1; unfold aMx at h
    split at h
    · exact mxn_noVia (hv (.inl rfl) _ (List.mem_cons_self ..)) h
    · cases h
  case mn =>
    have h := (map_H (α := V) h).1; unfold aMn at h
    split at h
    · exact mxn_noVia (hv (.inr rfl) _ (List.mem_cons_self ..)) h
    · cases h
  case cvi => have h := (map_H (α := V) h).1; unfold aCvi at h; split at h <;> cases h; rfl
  case cvs => have h := (map_H (α := V) h).1; unfold aCvs at h; split at h <;> cases h; rfl
  case b2s => have h := (map_H (α := V) h).1; unfold aB2s at h; split at h <;> first | (split at h; (obtain ⟨_, _, e⟩ := Option.map_eq_some_iff.1 h; cases e; rfl); cases h) | cases h
  case s2b => have h := (map_H (α := V) h).1; unfold aS2b at h; split at h <;> cases h; rfl
  case mif => have h := (map_H (α := V) h).1; unfold aMif at h; split at h <;> first | (split at h <;> cases h; rfl) | cases h
  case tas t ok z =>
    have h := (map_H (α := V) h).1; unfold aTas at h
    split at h
    · split at h
      · cases h
        split
        · rfl
        · exact V.dis_noVia _
      · split at h <;> cases h; rfl
    · split at h <;> cases h; rfl
    · cases h
  case tai =>
    have h := (map_H (α := V) h).1; unfold aTai at h
    split at h
    · split at h
      · cases h
        split <;> rfl
      · split at h <;> cases h; rfl
    · split at h <;> cases h; rfl
    · cases h
  case ext => have h := (map_H (α := V) h).1; unfold aExt at h; split at h; exact ntup_noVia h; cases h
  case mkf => split at h <;> cases h; rfl
  case mks => unfold aMks at h; split at h <;> first | (split at h <;> cases h; rfl) | cases h
  case pan => cases h

theorem isLv_iff {i : I} : isLv i = true ↔ ∃ xs, i = .op .lv xs := by
  unfold isLv
  split
  · exact ⟨fun _ => ⟨_, rfl⟩, fun _ => rfl⟩
  · rename_i h
    exact ⟨fun k => (by cases k), fun ⟨xs, k⟩ => absurd k (h xs)⟩
/-- Of a row that reads no slice of a cell and appends to none. -/
theorem calm_plain {r : Row} (hc : calmRow L r = true) (h1 : isLv r.2.2 = false) (h2 : ∀ a b xs, r.2.2 ≠ .op (.apv a b) xs) : iK r.2.2 = true ∧ (∀ t ∈ rowR r, t ∉ L) ∧ ∀ t, r.1 = some t → t ∉ L := by
  unfold calmRow at hc
  simp only [Bool.and_eq_true] at hc
  obtain ⟨⟨c1, c2⟩, c3⟩ := hc
  have n1 : ∀ xs, r.2.2 ≠ .op .lv xs := fun xs k => by rw [k] at h1; cases h1
  refine ⟨c1, ?_, ?_⟩
  · split at c2
    · rename_i xs k; exact absurd k (n1 xs)
    · rename_i a b xs k; exact absurd k (h2 a b xs)
    · rw [disj_iff] at c2
      exact fun t ht k => c2 t k ht
  · split at c3
    · rename_i xs k; exact absurd k (n1 xs)
    · rw [disj_iff] at c3
      exact fun t ht k => c3 t k (by simp [ht])
theorem step_noVia (hT : OrcOK T pure) {r : Row} {e e' : Env} {H H' : Heap} {v : V} (hL : LInv L e) (hc : calmRow L r = true) (hl : isLv r.2.2 = false) (h : step T s r.2.2 e H = some (v, e', H')) : v.noVia = true := by
  obtain ⟨d, g, i⟩ := r
  simp only at hl h
  by_cases h2 : ∃ a b xs, i = .op (.apv a b) xs
  · obtain ⟨a, b, xs, rfl⟩ := h2
    obtain ⟨vs, k1, k2, _⟩ := op_inv h
    exact apply_noVia (fun k => by rcases k with k | k <;> cases k) (fun k => by cases k) rfl k2
  · obtain ⟨c1, c2, c3⟩ := calm_plain hc hl fun a b xs k => h2 ⟨a, b, xs, k⟩
    have c2' : ∀ t ∈ iR i, t ∉ L := fun t ht => c2 t (List.mem_append_left _ ht)
    cases i with
    | mv x =>
      obtain ⟨p, h1, h2⟩ := Option.map_eq_some_iff.1 (show (evX x e).map (fun r => (r.1, r.2, H)) = some (v, e', H') from h)
      cases h2
      exact evX_noVia hL c2' c1 h1
    | op o xs =>
      obtain ⟨vs, k1, k2, _⟩ := op_inv h
      simp only [iK, Bool.and_eq_true] at c1
      refine apply_noVia (fun _ => evs_noVia hL c2' c1.1 k1) (fun k => ?_) ?_ k2
      · subst k; cases hl
      · have := c1.2; cases o <;> first | rfl | exact this
    | pick c x y =>
      simp only [step, Option.bind_eq_some_iff] at h
      obtain ⟨⟨u, e1⟩, h1, h⟩ := h
      cases u <;> try cases h
      rename_i b
      obtain ⟨p, h2, h3⟩ := Option.map_eq_some_iff.1 h
      cases h3
      simp only [iK, Bool.and_eq_true] at c1
      refine evX_noVia (hL.sub (evX_sub h1)) (fun t ht => c2' t ?_) ?_ h2
      · simp only [iR, List.mem_append]
        cases b
        · exact .inr ht
        · exact .inl (.inr ht)
      · cases b
        · exact c1.2
        · exact c1.1.2
    | exm j t =>
      simp only [step] at h
      split at h
      · rename_i vs hg
        obtain ⟨u, hu, e1⟩ := Option.map_eq_some_iff.1 h
        cases e1
        exact ntup_noVia hu
      · cases h
    | call f xs nw =>
      simp only [step, Option.bind_eq_some_iff] at h
      obtain ⟨⟨vs, e1⟩, h1, h⟩ := h
      split at h
      · obtain ⟨⟨q, K⟩, k2, h3⟩ := Option.map_eq_some_iff.1 h
        cases h3
        exact hT.noVia _ _ _ _ _ _ (chkN_run k2).1
      · cases h
    | cav x xs =>
      simp only [step, Option.bind_eq_some_iff] at h
      obtain ⟨⟨u, e0⟩, h0, h⟩ := h
      cases u <;> try cases h
      simp only [Option.bind_eq_some_iff] at h
      obtain ⟨⟨vs, e1⟩, h1, h⟩ := h
      split at h
      · obtain ⟨⟨q, K⟩, k2, h3⟩ := Option.map_eq_some_iff.1 h
        cases h3
        exact hT.noVia _ _ _ _ _ _ k2
      · cases h
    | cam tbl x xs =>
      simp only [step, Option.bind_eq_some_iff] at h
      obtain ⟨⟨u, e0⟩, h0, h⟩ := h
      cases u <;> try cases h
      simp only at h
      split at h
      · simp only [Option.bind_eq_some_iff] at h
        obtain ⟨⟨vs, e1⟩, h1, h⟩ := h
        split at h
        · obtain ⟨⟨q, K⟩, k2, h3⟩ := Option.map_eq_some_iff.1 h
          cases h3
          exact hT.noVia _ _ _ _ _ _ k2
        · cases h
      · cases h
/-- Slices just read from cells are laid into L alone. -/
def lvIn (L : List Nat) (r : Row) : Prop := isLv r.2.2 = true → ∀ t, r.1 = some t → t ∈ L
theorem op1_LInv (hT : OrcOK T pure) {r : Row} {e e' : Env} {H H' : Heap} (hL : LInv L e) (hc : calmRow L r = true) (hl : lvIn L r) (h : op1 T s r e H = some (e', H')) : LInv L e' := by
  rcases op1_cases h with ⟨_, _, _, k⟩ | ⟨v, e1, k1, k2, _⟩
  · subst k
    exact hL.put (.inl rfl)
  · subst k2
    refine (step_LInv hL k1).put ?_
    cases hv : isLv r.2.2 with
    | true => exact .inr (hl hv)
    | false => exact .inl (step_noVia hT hL hc hv k1)

theorem chk_cls (hT : OrcOK T pure) {i : I} (h : chk T i = true) : cls pure i = .W ∨ cls pure i = .U := by
  cases i with
  | op o xs => rw [cls_op]; cases o <;> first | (cases h; done) | exact .inl rfl | exact .inr rfl
  | call f xs nw =>
    simp only [chk, Bool.not_eq_true'] at h
    simp only [cls]
    cases hp : pure f with
    | true => rw [hT.pu f hp] at h; cases h
    | false => exact .inr rfl
  | cav x xs => exact .inr rfl
  | cam t x xs => exact .inr rfl
  | _ => cases h
theorem not_apv {i : I} (h : cls pure i = .S ∨ cls pure i = .R) : ∀ a b xs, i ≠ .op (.apv a b) xs := by
  rintro a b xs rfl
  rcases h with h | h <;> cases h
theorem not_lv_S {i : I} (h : cls pure i = .S) : isLv i = false := by
  cases hv : isLv i with
  | false => rfl
  | true => obtain ⟨xs, rfl⟩ := isLv_iff.1 hv; cases h
theorem heap_chk_b {a b : Row} (hp : heapOK pure conf free fps a b = true) (hb : cls pure b.2.2 = .W ∨ cls pure b.2.2 = .U) : (cls pure a.2.2 = .S ∨ cls pure a.2.2 = .R) ∧ isLv a.2.2 = false := by
  unfold heapOK at hp
  cases ha : cls pure a.2.2 with
  | S => exact ⟨.inl rfl, not_lv_S ha⟩
  | R =>
    refine ⟨.inr rfl, ?_⟩
    rcases hb with hb | hb <;> rw [ha, hb] at hp <;> simp only [Bool.and_eq_true, Bool.not_eq_true'] at hp
    · exact hp.1.1.2
    · exact hp.2
  | _ => rcases hb with hb | hb <;> rw [ha, hb] at hp <;> cases hp
theorem heap_chk_a {a b : Row} (hp : heapOK pure conf free fps a b = true) (hb : cls pure a.2.2 = .W ∨ cls pure a.2.2 = .U) : (cls pure b.2.2 = .S ∨ cls pure b.2.2 = .R) ∧ isLv b.2.2 = false := by
  unfold heapOK at hp
  cases ha : cls pure b.2.2 with
  | S => exact ⟨.inl rfl, not_lv_S ha⟩
  | R =>
    refine ⟨.inr rfl, ?_⟩
    rcases hb with hb | hb <;> rw [ha, hb] at hp <;> simp only [Bool.and_eq_true, Bool.not_eq_true'] at hp
    · exact hp.1.2
    · exact hp.2
  | _ => rcases hb with hb | hb <;> rw [ha, hb] at hp <;> cases hp
theorem rowW_notL {r : Row} (hc : calmRow L r = true) (h1 : isLv r.2.2 = false) (h2 : ∀ a b xs, r.2.2 ≠ .op (.apv a b) xs) : ∀ t ∈ rowW r, t ∉ L := by
  obtain ⟨_, c2, c3⟩ := calm_plain hc h1 h2
  intro t ht
  simp only [rowW, List.mem_append, Option.mem_toList] at ht
  rcases ht with ht | ht
  · exact c2 t (List.mem_append_left _ (iW_sub _ t ht))
  · exact c3 t ht

/-- **Two rows change places.** -/
theorem swap (hT : OrcOK T pure) {a b : Row} {e e1 e2 : Env} {H H1 H2 : Heap} (h1 : op1 T s a e H = some (e1, H1)) (h2 : op1 T s b e1 H1 = some (e2, H2)) (hi : indep pure conf free fps a b = true)
    (ca : calmRow L a = true) (cb : calmRow L b = true) (la : lvIn L a) (lb : lvIn L b) (hn : (keys e).Nodup) (hL : LInv L e) (F : Facts conf free fps a b e H) :
    ∃ f1 G1 f2, op1 T s b e H = some (f1, G1) ∧ op1 T s a f1 G1 = some (f2, H2) ∧ EEq f2 e2 := by
  simp only [indep, Bool.and_eq_true] at hi
  obtain ⟨⟨⟨d1, d2⟩, d3⟩, hp⟩ := hi
  rw [disj_iff] at d1 d2 d3
  have kA := op1_loc h1 hn
  have kB := op1_loc h2 kA.nodup
  have hd : ∀ t ∈ rowR b, eget e1 t = eget e t := fun t ht => kA.out t fun k => d1 t k ht
  have iKa : iK a.2.2 = true := by unfold calmRow at ca; simp only [Bool.and_eq_true] at ca; exact ca.1.1
  have iKb : iK b.2.2 = true := by unfold calmRow at cb; simp only [Bool.and_eq_true] at cb; exact cb.1.1
  obtain ⟨G1, g1, g2⟩ := swap_heap hT h1 h2 hp iKa iKb hd F
  obtain ⟨f1, x1, x2, x3⟩ := (op1_loc g1 kA.nodup).same e hn (fun t ht => (hd t ht).symm) fun hc => by
    obtain ⟨y1, y2⟩ := heap_chk_b hp (chk_cls hT hc)
    intro t v hv
    by_cases hw : t ∈ rowW a
    · exact .inl (hL t v (rowW_notL ca y2 (not_apv y1) t hw) hv)
    · exact .inr (by rw [kA.out t hw]; exact hv)
  obtain ⟨f2, z1, z2, z3⟩ := (op1_loc g2 hn).same f1 (op1_loc x1 hn).nodup (fun t ht => x2 t fun k => d3 t k ht) fun hc => by
    obtain ⟨y1, y2⟩ := heap_chk_a hp (chk_cls hT hc)
    have hL1 := op1_LInv hT hL cb lb x1
    intro t v hv
    by_cases hw : t ∈ rowW b
    · exact .inl (hL1 t v (rowW_notL cb y2 (not_apv y1) t hw) hv)
    · exact .inr (by rw [← x2 t hw]; exact hv)
  refine ⟨f1, G1, f2, x1, z1, fun t => ?_⟩
  by_cases hwa : t ∈ rowW a
  · rw [z3 t hwa, kB.out t (d2 t hwa)]
  · rw [z2 t hwa]
    by_cases hwb : t ∈ rowW b
    · exact x3 t hwb
    · rw [x2 t hwb, kB.out t hwb, kA.out t hwa]
end
end Go.Abs
