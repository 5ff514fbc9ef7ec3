/-
  What a call hands back: its results; slices over objects of its own; objects that are hidden from a call.
-/
import Derived.Test.YtcfefgeheibadaaAbsF
namespace Go.Abs
open Go.RowKit (Below)

section
variable {P : Program} {lim : Option Nat} {B : Nat} {F : List Nat} {nt : Nat} {S : Nat → Nat → Prop} {bl : List Nat} {vals : List (V × Value)} {H : Heap} {w : World}

/-- Values at hand, the results among them taken out. -/
theorem eget_take {a : Act} {e : Env} (hn : (keys e).Nodup) {n : Nat} {v : V} (h : eget e n = some v) : (eV a e).Perm ((v, a.tmps.getD n undef) :: eV a (edel e n)) :=
  (edel_perm hn h).map (fun p : Nat × V => (p.2, a.tmps.getD p.1 undef))
theorem nodupB_iff : ∀ {l : List Nat}, nodupB l = true → l.Nodup
  | [], _ => List.nodup_nil
  | x :: r, h => by
    simp only [nodupB, Bool.and_eq_true, Bool.not_eq_true', List.contains_eq_mem, decide_eq_false_iff_not] at h
    exact List.nodup_cons.2 ⟨h.1, nodupB_iff h.2⟩

def resRun (P : Program) (tmps : Array Value) (r : ResultVar) : Sem Value :=
  match r with
  | .tmp t => Pure.pure (tmps.getD t undef)
  | .cell a t => do loadVar t (← asAddr (tmps.getD a undef))

theorem run_loadVar1 {t : TypeId} {d : TypeDesc} (ht : P.underlying t = some d) (hd : isAggB P t = false) {ad : Addr} {c : Value} (hc : w.cell? ad = some c) : (loadVar t ad).run P w = .ok c w := by
  simp only [loadVar, Sem.run_bind, run_isAgg ht, Result.andThen_ok, hd, Bool.false_eq_true, if_false, run_load, hc]
theorem run_loadVarN {t : TypeId} {n b o : Nat} (ht : isAggB P t = true) (hz : szIs P t n = true) {ds : List Value} (hl : ds.length = n) (hc : ∀ (j : Nat) c, ds[j]? = some c → w.cell? ⟨b, o + j, none⟩ = some c) :
    (loadVar t ⟨b, o, none⟩).run P w = .ok (.agg ds.toArray) w := by
  obtain ⟨d, hd⟩ : ∃ d, P.underlying t = some d := by
    unfold isAggB at ht
    cases h : P.underlying t with
    | none => rw [h] at ht; cases ht
    | some d => exact ⟨d, rfl⟩
  simp only [loadVar, Sem.run_bind, run_isAgg hd, Result.andThen_ok, ht, if_true, run_size hz, run_loadCells (P := P) hl hc, Sem.run_pure]

theorem sim_res {a : Act} : ∀ {rvs : List ResultVar} {rs : List Rs} {us : List (V × Value)} {e e0 : Env} {vs : List V}, okRes P rvs rs = true → (rsT rs).Nodup → resAll e0 H rs = some vs → (keys e).Nodup → (∀ n ∈ rsT rs, eget e n = eget e0 n) →
    (∀ n v, eget e0 n = some v → Rep S bl w v (a.tmps.getD n undef)) → St lim B F S bl (us ++ eV a e) H w →
    ∃ cs, (rvs.mapM (resRun P a.tmps)).run P w = .ok cs w ∧ St lim B F S bl (us ++ vs.zip cs) H w ∧ vs.length = cs.length ∧ ∀ v ∈ vs, v.noVia = true
  | [], [], us, e, e0, vs, _, _, hr, _, _, _, h => by
    cases hr
    exact ⟨[], rfl, by simpa using h.subl (List.sublist_append_left us (eV a e)), rfl, by simp⟩
  | [], _ :: _, _, _, _, _, hok, _, _, _, _, _, _ => by simp [okRes] at hok
  | _ :: _, [], _, _, _, _, hok, _, _, _, _, _, _ => by simp [okRes] at hok
  | rv :: rvs, r :: rs, us, e, e0, vs, hok, hnd, hr, hn, heq, hrep, h => by
    obtain ⟨v, h1, h2⟩ := Option.bind_eq_some_iff.1 (show (resOf e0 H r).bind (fun v => if v.noVia then (resAll e0 H rs).map (v :: ·) else none) = some vs from hr)
    split at h2
    · rename_i hv
      obtain ⟨vs', h3, rfl⟩ := Option.map_eq_some_iff.1 h2
      suffices H0 : ∃ (c : Value) (e1 : Env), (resRun P a.tmps rv).run P w = .ok c w ∧ okRes P rvs rs = true ∧ (keys e1).Nodup ∧ (∀ n ∈ rsT rs, eget e1 n = eget e0 n) ∧ (rsT rs).Nodup ∧ St lim B F S bl (us ++ [(v, c)] ++ eV a e1) H w by
        obtain ⟨c, e1, k1, k2, k3, k4, k5, k6⟩ := H0
        obtain ⟨cs, l1, l2, l3, l4⟩ := sim_res (us := us ++ [(v, c)]) k2 k5 h3 k3 k4 hrep k6
        refine ⟨c :: cs, ?_, by simpa using l2, by simp [l3], ?_⟩
        · simp only [List.mapM_cons, Sem.run_bind, k1, Result.andThen_ok, l1, Sem.run_pure]
        · intro u hu
          rcases List.mem_cons.1 hu with rfl | hu
          · exact hv
          · exact l4 u hu
      cases r with
      | t n =>
        cases rv with
        | cell _ _ => simp [okRes] at hok
        | tmp t =>
        simp only [okRes, Bool.and_eq_true, beq_iff_eq] at hok
        obtain ⟨rfl, hok⟩ := hok
        simp only [rsT, List.nodup_cons] at hnd
        have hg : eget e t = some v := by rw [heq t (by simp [rsT])]; exact h1
        refine ⟨a.tmps.getD t undef, edel e t, by simp [resRun], hok, nodup_edel t hn, fun m hm => ?_, hnd.2, h.perm ?_⟩
        · rw [eget_edel, if_neg, heq m (by simp [rsT, hm])]
          rintro rfl
          exact hnd.1 hm
        · rw [List.append_assoc]
          exact .append_left us (eget_take hn hg).symm
      | cell n =>
        cases rv with
        | tmp _ => simp [okRes] at hok
        | cell ad t =>
        simp only [okRes, Bool.and_eq_true, beq_iff_eq, Bool.not_eq_true'] at hok
        obtain ⟨⟨⟨rfl, hag⟩, hu⟩, hok⟩ := hok
        obtain ⟨d, hd⟩ := Option.isSome_iff_exists.1 hu
        simp only [resOf] at h1
        split at h1
        · rename_i id o hg
          obtain ⟨x, hx, rfl⟩ := Option.map_eq_some_iff.1 h1
          obtain ⟨b, hb, hp⟩ := (hrep _ _ hg).ptr_inv
          obtain ⟨hs, c, hc, hr'⟩ := h.get hx hb
          refine ⟨c, e, ?_, hok, hn, fun m hm => heq m (by simp [rsT, hm]), by simpa [rsT] using hnd, ?_⟩
          · simp only [resRun, hp, asAddr, Sem.run_bind, Sem.run_pure, Result.andThen_ok]
            exact run_loadVar1 hd hag hc
          · rw [List.append_assoc]
            refine (h.add0 (v := x.dis1) (c := c) hr'.dis1 ?_).perm List.perm_middle
            exact (tips_single (.inr trivial) (.inl (V.dis1_single hs))).trans (tips1_dis1 _ _)
        · cases h1
      | cells n sz =>
        cases rv with
        | tmp _ => simp [okRes] at hok
        | cell ad t =>
        simp only [okRes, Bool.and_eq_true, beq_iff_eq] at hok
        obtain ⟨⟨⟨rfl, hag⟩, hz⟩, hok⟩ := hok
        simp only [resOf] at h1
        split at h1
        · rename_i id o hg
          obtain ⟨x, hx, rfl⟩ := Option.map_eq_some_iff.1 h1
          obtain ⟨b, hb, hp⟩ := (hrep _ _ hg).ptr_inv
          obtain ⟨hl, ds, hr1, hr2, hr3⟩ := h.cells hx hb
          have hl2 := ((RepL_iff _ _).1 hr1).1
          refine ⟨.agg ds.toArray, e, ?_, hok, hn, fun m hm => heq m (by simp [rsT, hm]), by simpa [rsT] using hnd, ?_⟩
          · simp only [resRun, hp, asAddr, Sem.run_bind, Sem.run_pure, Result.andThen_ok]
            exact run_loadVarN hag hz (by omega) hr2
          · rw [List.append_assoc]
            refine (h.add0 (v := .agg (x.map V.dis1)) (c := .agg ds.toArray) ?_ (tips_agg_dis1 _ _)).perm List.perm_middle
            simp only [Rep]
            exact ⟨_, rfl, by simpa using hr1.dis1, fun u hu => by obtain ⟨y, hy, rfl⟩ := List.mem_map.1 hu; exact V.dis1_single (hr3 y hy)⟩
        · cases h1
    · cases h2

/-! ### Slices over objects that go -/
theorem frz1_tips (H : Heap) (m : Nat) (v : V) (c : Value) : tips1 (frz1 H m v) c = tips1 v c := by
  unfold frz1
  split
  · split
    · split
      · cases c <;> rfl
      · rfl
    · rfl
  · cases c <;> rfl
  · rfl
theorem frz1L_tips (H : Heap) (m : Nat) : ∀ (vs : List V) (cs : List Value), tipsL (vs.map (frz1 H m)) cs = tipsL vs cs
  | [], _ => rfl
  | _ :: _, [] => rfl
  | v :: vs, c :: cs => by simp only [List.map_cons, tipsL, frz1_tips, frz1L_tips H m vs cs]
theorem frz_tips (H : Heap) (m : Nat) (v : V) (c : Value) : tips (frz H m v) c = tips v c := by
  cases v with
  | ar sz id off n k =>
    simp only [frz, frz1]
    split
    · split <;> cases c <;> rfl
    · rfl
  | nls => cases c <;> rfl
  | agg cs => cases c <;> first | rfl | exact frz1L_tips H m cs _
  | _ => rfl
theorem frz1_single (H : Heap) (m : Nat) {v : V} (h : v.single = true) : (frz1 H m v).single = true := by
  unfold frz1
  split
  · split
    · split <;> rfl
    · rfl
  · rfl
  · exact h
theorem frz_noVia (H : Heap) (m : Nat) {v : V} (h : v.noVia = true) : (frz H m v).noVia = true := by
  cases v <;> first | exact h | (simp only [frz, frz1]; split <;> first | rfl | (split <;> rfl)) | rfl

/-- Cells of objects that go, and are written no more. -/
def More (S : Nat → Nat → Prop) (bl : List Nat) (m : Nat) (w : World) (b o : Nat) : Prop := S b o ∨ (∃ id, m ≤ id ∧ bl[id]? = some b) ∧ (w.cell? ⟨b, o, none⟩).isSome = true
theorem More.keeps (S : Nat → Nat → Prop) (bl : List Nat) (m : Nat) (w : World) : Keeps S w (More S bl m w) w := ⟨fun _ _ h => .inl h, fun _ _ _ => rfl, fun _ _ h => h⟩

theorem frz1_rep (h : St lim B F S bl vals H w) {m : Nat} {v : V} {c : Value} (hv : v.noVia = true) (hr : Rep S bl w v c) (hb : (frz1 H m v).rb m = true) : Rep (More S bl m w) (bl.take m) w (frz1 H m v) c := by
  have plain : ∀ u : V, u.noVia = true → u.rb m = true → Rep S bl w u c → Rep (More S bl m w) (bl.take m) w u c := fun u h1 h2 h3 =>
    Rep.cut u c h2 (Rep.mono (More.keeps S bl m w) (fun _ _ e => e) u c h1 h3)
  cases v with
  | ar sz id off n k =>
    simp only [frz1] at hb ⊢
    by_cases hm : m ≤ id
    · rw [if_pos hm] at hb ⊢
      cases hc : hcells H id off (n * sz) with
      | none =>
        rw [hc] at hb
        simp only [V.rb, decide_eq_true_eq] at hb
        omega
      | some cs =>
        rw [hc] at hb
        simp only [V.rb] at hb ⊢
        simp only [Rep] at hr ⊢
        obtain ⟨b, cap, h1, h2, rfl, _⟩ := hr
        obtain ⟨hl, ds, d1, d2, d3⟩ := h.cells hc h1
        refine ⟨_, cap, rfl, Nat.le_trans h2.1 h2.2, (fun e => by cases e), fun ad had => ?_⟩
        cases had
        refine ⟨fun _ => rfl, ?_⟩
        rw [RepC_iff]
        intro j u hj
        rw [List.getElem?_map] at hj
        obtain ⟨x, hx, rfl⟩ := Option.map_eq_some_iff.1 hj
        obtain ⟨hjl, _⟩ := List.getElem?_eq_some_iff.1 hx
        have hl2 := ((RepL_iff _ _).1 d1).1
        have hdj : ds[j]? = some ds[j] := List.getElem?_eq_getElem (by omega)
        have hcell := d2 j _ hdj
        have hxm := List.mem_of_getElem? hx
        refine ⟨.inr ⟨⟨id, hm, h1⟩, by rw [hcell]; rfl⟩, V.dis1_single (d3 x hxm), ds[j], hcell, ?_⟩
        have hrx := (((RepL_iff _ _).1 d1).2 j x ds[j] hx hdj).dis1
        exact Rep.cut _ _ (V.rbL_iff.1 hb _ (List.mem_map.2 ⟨x, hxm, rfl⟩)) (Rep.mono (More.keeps S bl m w) (fun _ _ e => e) _ _ (V.dis1_noVia x) hrx)
    · rw [if_neg hm] at hb ⊢
      exact plain _ hv hb hr
  | nls =>
    simp only [frz1, Rep] at hr ⊢
    subst hr
    exact ⟨none, 0, rfl, Nat.le_refl _, fun _ => by simp, fun ad e => by cases e⟩
  | _ => exact plain _ hv hb hr
end
end Go.Abs
