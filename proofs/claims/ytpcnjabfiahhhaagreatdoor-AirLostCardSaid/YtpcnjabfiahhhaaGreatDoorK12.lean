/- A part of the proof of RowAirFits, RowAirHeard, RowAirOrder, RowAirLost: lemmas alone, without conditions. -/
import Derived.Test.YtpcnjabfiahhhaaGreatDoorK11
set_option linter.all false
namespace Go.Abs
open Go.RowKit (Below)
abbrev aYe (o : Oper) (acc : List Nat) : Nat := o.after.toList.foldl (fun s e => if Region.binds .any e then s ||| 1 <<< e.on ||| acc.getD e.on 0 else s) 0
theorem aFo {acc : List Nat} {i : Nat} : ∀ (l : List Edge) (s : Nat), (l.foldl (fun s e => if Region.binds .any e then s ||| 1 <<< e.on ||| acc.getD e.on 0 else s) s).testBit i = true →
 s.testBit i = true ∨ ∃ e ∈ l, Region.binds .any e = true ∧ (i = e.on ∨ (acc.getD e.on 0).testBit i = true)
 | [], s, h => .inl h
 | e :: l, s, h => by
   simp only [List.foldl_cons] at h
   rcases aFo l _ h with k | ⟨x, hx, k⟩
   ·split at k
    ·rename_i hb
     simp only [Nat.testBit_or, Bool.or_eq_true, Nat.one_shiftLeft, Nat.testBit_two_pow, decide_eq_true_eq] at k
     rcases k with (k | k) | k
     ·exact .inl k
     ·exact .inr ⟨e, List.mem_cons_self .., hb, .inl k.symm⟩
     ·exact .inr ⟨e, List.mem_cons_self .., hb, .inr k⟩
    ·exact .inl k
   ·exact .inr ⟨x, List.mem_cons_of_mem _ hx, k⟩
theorem aFp : ∀ (ops : List Oper) (acc : List Nat) (k m : Nat), (O2 ops acc)[k]? = some m → ∃ o, ops[k]? = some o ∧ m = aYe o (acc ++ (O2 ops acc).take k)
 | [], acc, k, m, h => by simp [O2] at h
 | o :: r, acc, 0, m, h => by
   simp only [O2, List.getElem?_cons_zero, Option.some.injEq] at h
   exact ⟨o, rfl, by simpa using h.symm⟩
 | o :: r, acc, k + 1, m, h => by
   simp only [O2, List.getElem?_cons_succ] at h
   obtain ⟨o', h1, h2⟩ := aFp r _ k m h
   refine ⟨o', by simpa using h1, ?_⟩
   rw [h2]
   simp only [O2, List.take_succ_cons, List.append_assoc, List.singleton_append]
theorem aN3 {ops : List Oper} {j m i : Nat} {o : Oper} (hm : (O2 ops [])[j]? = some m) (ho : ops[j]? = some o) (hb : ∀ e ∈ o.after, Region.binds .any e = true → e.on < j) (h : m.testBit i = true) :
 ∃ e ∈ o.after, Region.binds .any e = true ∧ (i = e.on ∨ ((O2 ops []).getD e.on 0).testBit i = true) := by
 obtain ⟨o', h1, h2⟩ := aFp ops [] j m hm
 rw [ho] at h1
 cases h1
 subst h2
 rcases aFo _ _ h with k | ⟨e, he, k1, k2⟩
 ·simp at k
 ·have he' : e ∈ o.after := by simpa using he
  refine ⟨e, he', k1, k2.imp id fun k => ?_⟩
  rw [List.nil_append, List.getD_eq_getElem?_getD, List.getElem?_take, if_pos (hb e he' k1)] at k
  rw [List.getD_eq_getElem?_getD]
  exact k
theorem n8 {pure : FuncId → Bool} {conf : List (Nat × Nat × Nat × Nat)} {free fps : List Nat} : ∀ {rows : List eJ} {j : Nat} {before : List (eJ × Nat)} {ms : List Nat}, rQ pure conf free fps rows j before ms = true →
 ∀ (k : Nat) (b : eJ), rows[k]? = some b → ∃ m, ms[k]? = some m ∧ (∀ p ∈ before, m.testBit p.2 = true ∨ zG pure conf free fps p.1 b = true) ∧
  ∀ (l : Nat) (a : eJ), l < k → rows[l]? = some a → m.testBit (j + l) = true ∨ zG pure conf free fps a b = true
 | [], _, _, _, _, k, b, hb => by simp at hb
 | _ :: _, _, _, [], h, _, _, _ => by simp [rQ] at h
 | x :: rows, j, before, m :: ms, h, k, b, hb => by
   simp only [rQ, Bool.and_eq_true, List.all_eq_true, Bool.or_eq_true] at h
   cases k with
   | zero =>
     simp at hb; subst hb
     exact ⟨m, rfl, h.1, fun l a hl => by omega⟩
   | succ k =>
     obtain ⟨m', h1, h2, h3⟩ := n8 h.2 k b (by simpa using hb)
     refine ⟨m', by simpa using h1, fun p hp => h2 p (List.mem_cons_of_mem _ hp), fun l a hl ha => ?_⟩
     cases l with
     | zero =>
       simp at ha; subst ha
       exact h2 (x, j) (List.mem_cons_self ..)
     | succ l =>
       have := h3 l a (by omega) (by simpa using ha)
       rwa [show j + (l + 1) = j + 1 + l by omega]
def hI (n : Nat) (listed : Array Bool) : List Nat := (List.range n).filter fun i => !listed.getD i true
theorem rS {n i : Nat} {listed : Array Bool} : i ∈ hI n listed ↔ i < n ∧ listed.getD i true = false := by simp [hI]
theorem aK8 {n j : Nat} {listed : Array Bool} {pre post : List Nat} (hs : listed.size = n) (h : hI n listed = pre ++ j :: post) : hI n (listed.setIfInBounds j true) = pre ++ post := by
 have hj : j < n := (rS.1 (h ▸ List.mem_append_right _ (List.mem_cons_self ..))).1
 have e1 : hI n (listed.setIfInBounds j true) = (hI n listed).filter fun i => decide (i ≠ j) := by
  unfold hI
  rw [List.filter_filter]
  refine List.filter_congr fun i hi => ?_
  have hi' : i < n := by simpa using hi
  by_cases hij : i = j
  ·subst hij
   simp [hs, hj]
  ·rw [getD_set_ne true (Ne.symm hij)]
   simp [hij]
 have nd : (hI n listed).Nodup := List.nodup_range.filter _
 rw [h, List.nodup_append] at nd
 obtain ⟨_, n2, n3⟩ := nd
 rw [List.nodup_cons] at n2
 rw [e1, h, List.filter_append, List.filter_cons, if_neg (by simp)]
 congr 1
 ·refine List.filter_eq_self.2 fun i hi => ?_
  simp only [decide_eq_true_eq]
  exact n3 i hi j (List.mem_cons_self ..)
 ·refine List.filter_eq_self.2 fun i hi => ?_
  simp only [decide_eq_true_eq]
  rintro rfl
  exact n2.1 hi
theorem aFq {n j : Nat} {listed : Array Bool} (h : j ∈ hI n listed) : ∃ pre post, hI n listed = pre ++ j :: post ∧ ∀ i ∈ pre, i < j := by
 obtain ⟨pre, post, hp⟩ := List.append_of_mem h
 refine ⟨pre, post, hp, fun i hi => ?_⟩
 have hs : (hI n listed).Pairwise (· < ·) := (List.pairwise_lt_range).filter _
 rw [hp, List.pairwise_append] at hs
 exact hs.2.2 i hi j (List.mem_cons_self ..)
section
variable {P : Program} {lim : Option Nat} {B : Nat} {F : List Nat} {nt : Nat} {T : Orc} {pure : FuncId → Bool}
theorem y8 : ∀ {ops : Array Oper} {os : List Oper} {rs : List eJ}, pG P nt ops os rs = true → os.length = rs.length ∧ ∀ (j : Nat) (o : Oper) (r : eJ), os[j]? = some o → rs[j]? = some r → aI1 P nt ops o r = true
 | ops, [], [], _ => ⟨rfl, fun j o r h => by simp at h⟩
 | ops, [], _ :: _, h => by simp [pG] at h
 | ops, _ :: _, [], h => by simp [pG] at h
 | ops, o :: os, r :: rs, h => by
   simp only [pG, Bool.and_eq_true] at h
   obtain ⟨h1, h2⟩ := y8 h.2
   refine ⟨by simp [h1], fun j o' r' ho hr => ?_⟩
   cases j with
   | zero => simp at ho hr; subst ho; subst hr; exact h.1
   | succ j => exact h2 j o' r' (by simpa using ho) (by simpa using hr)
theorem aIp : ∀ {rs : List eJ} {r : eJ}, r ∈ rs → lvIn (lvs rs) r
 | [], _, h => by cases h
 | x :: rs, r, h => by
   intro hl t ht
   simp only [lvs, List.mem_append]
   rcases List.mem_cons.1 h with rfl | h
   ·left
    obtain ⟨xs, hx⟩ := aFd.1 hl
    rw [hx]
    simp [ht]
   ·exact .inr (aIp h hl t ht)
structure Drawn (pure : FuncId → Bool) (conf : List (Nat × Nat × Nat × Nat)) (free fps : List Nat) (ops : Array Oper) (rs : List eJ) : Prop where
 back : ∀ (i : Nat) (o : Oper), ops[i]? = some o → ∀ e ∈ o.after, Region.binds .any e = true → e.on < i
 sconf : ∀ t n u m, (t, n, u, m) ∈ conf → dR t rs = true ∧ dR u rs = true
 sfree : ∀ t ∈ free, dR t rs = true
 sfps : ∀ t ∈ fps, dR t rs = true
 dcalm : ∀ r ∈ rs, nE (lvs rs) r = true
 pairs : rQ pure conf free fps rs 0 [] (O2 ops.toList []) = true
theorem aN4 {conf : List (Nat × Nat × Nat × Nat)} {free fps : List Nat} {ops : Array Oper} {rs : List eJ} (h : aD3 pure conf free fps ops.toList rs = true) : Drawn pure conf free fps ops rs := by
 unfold aD3 at h
 simp only [Bool.and_eq_true, List.all_eq_true] at h
 obtain ⟨⟨⟨⟨⟨h1, h2⟩, h3⟩, h4⟩, h5⟩, h6⟩ := h
 refine ⟨fun i o ho e he hb => ?_, fun t n u m hm => by simpa using h2 _ hm, h3, h4, h5, h6⟩
 have := h1 (o, i) (by
  rw [List.mem_zipIdx_iff_getElem?]
  simpa using ho) e (by simpa using he)
 rw [hb] at this
 simpa using this
theorem aK9 (hT : CallOK P T) (hO : OrcOK T pure) {conf : List (Nat × Nat × Nat × Nat)} {free fps : List Nat} {ops : Array Oper} {rs : List eJ} {Q : Exit → Act → World → Prop} {E0 : aQ} {HE : aB}
 (hok : pG P nt ops ops.toList rs = true) (hd : Drawn pure conf free fps ops rs) (hE0 : (cY E0).Nodup) :
 ∀ (fuel : Nat) (listed : Array Bool) {e E : aQ} {H : aB} {a : Act} {w : World} {S : Nat → Nat → Prop} {bl : List Nat}, listed.size = ops.size →
  (∀ k, listed.getD k false = true → ∀ i, ((O2 ops.toList []).getD k 0).testBit i = true → listed.getD i false = true) → (hI ops.size listed).length ≤ fuel →
  lB T lim ((hI ops.size listed).map fun i => rs.getD i default) e H = some (E, HE) → LInv (lvs rs) e → Coming T pure (lvs rs) free fps conf ((hI ops.size listed).map fun i => rs.getD i default) E → EEq E E0 →
  ER lim B F nt S bl e H a w → (∀ a' w' S' bl', ER lim B F nt S' bl' E0 HE a' w' → Ext lim B F S bl H w S' bl' HE w' → Q .normal a' w') → wpAny P .any ops Q fuel listed a w := by
 obtain ⟨hlen, hrow⟩ := y8 hok
 have hlen' : rs.length = ops.size := by rw [← hlen]; simp
 intro fuel
 have none_ready : ∀ (listed : Array Bool), listed.size = ops.size → Region.ready .any ops listed = [] → hI ops.size listed = [] := by
  intro listed hs hr
  cases hst : hI ops.size listed with
  | nil => rfl
  | cons j l =>
    exfalso
    have hj : j ∈ hI ops.size listed := by rw [hst]; exact List.mem_cons_self ..
    obtain ⟨j1, j2⟩ := rS.1 hj
    have hsort : (hI ops.size listed).Pairwise (· < ·) := (List.pairwise_lt_range).filter _
    have : j ∈ Region.ready .any ops listed := by
     refine mem_ready.2 ⟨j2, ops[j], Array.getElem?_eq_getElem j1, fun e he hb => ?_⟩
     have hlt := hd.back j _ (Array.getElem?_eq_getElem j1) e he hb
     by_cases hl : listed.getD e.on true = false
     ·have : e.on ∈ hI ops.size listed := rS.2 ⟨by omega, hl⟩
      rw [hst] at this hsort
      rcases List.mem_cons.1 this with k | k
      ·omega
      ·have := (List.pairwise_cons.1 hsort).1 _ k
       omega
     ·have h2 : e.on < listed.size := by omega
      simp only [Bool.not_eq_false] at hl
      simpa [Array.getD_eq_getD_getElem?, h2] using hl
    rw [hr] at this
    cases this
 have fin : ∀ {listed : Array Bool} {e E : aQ} {H : aB} {a : Act} {w : World} {S : Nat → Nat → Prop} {bl : List Nat}, hI ops.size listed = [] → lB T lim ((hI ops.size listed).map fun i => rs.getD i default) e H = some (E, HE) → EEq E E0 →
  ER lim B F nt S bl e H a w → (∀ a' w' S' bl', ER lim B F nt S' bl' E0 HE a' w' → Ext lim B F S bl H w S' bl' HE w' → Q .normal a' w') → Q .normal a w := by
  intro listed e E H a w S bl hst hr hE hER hQ
  rw [hst] at hr
  cases hr
  exact hQ _ _ _ _ (hER.eeq hE0 hE) (Ext.refl _ _ _ _ _ _ _)
 induction fuel with
 | zero =>
   intro listed e E H a w S bl hs hcl hf hr hL hc hE hER hQ
   have hst : hI ops.size listed = [] := List.length_eq_zero_iff.1 (by omega)
   refine ⟨?_, fin hst hr hE hER hQ⟩
   cases hrd : Region.ready .any ops listed with
   | nil => rfl
   | cons j l =>
     have : j ∈ Region.ready .any ops listed := by rw [hrd]; exact List.mem_cons_self ..
     obtain ⟨k1, o, k2, _⟩ := mem_ready.1 this
     have : j ∈ hI ops.size listed := rS.2 ⟨(Array.getElem?_eq_some_iff.1 k2).1, k1⟩
     rw [hst] at this
     cases this
 | succ fuel ih =>
   intro listed e E H a w S bl hs hcl hf hr hL hc hE hER hQ
   refine ⟨fun hrd => fin (none_ready listed hs hrd) hr hE hER hQ, fun j hj => ?_⟩
   obtain ⟨j1, o, ho, hed⟩ := mem_ready.1 hj
   have hjn : j < ops.size := (Array.getElem?_eq_some_iff.1 ho).1
   obtain ⟨pre, post, hp, hlt⟩ := aFq (rS.2 ⟨hjn, j1⟩)
   have hrj : rs[j]? = some (rs.getD j default) := by rw [List.getD_eq_getElem?_getD, List.getElem?_eq_getElem (by omega)]; rfl
   obtain ⟨m, hm, _, hpair⟩ := n8 hd.pairs j _ hrj
   have hback := hd.back j o ho
   have hanc : ∀ i, m.testBit i = true → listed.getD i false = true := fun i hi => by
    obtain ⟨x, hx, hb, k⟩ := aN3 hm (by simpa using ho) hback hi
    rcases k with rfl | k
    ·exact hed x hx hb
    ·exact hcl x.on (hed x hx hb) i k
   have hind : ∀ x ∈ pre.map (fun i => rs.getD i default), zG pure conf free fps x (rs.getD j default) = true := fun x hx => by
    obtain ⟨i, hi, rfl⟩ := List.mem_map.1 hx
    have hi2 : i ∈ hI ops.size listed := by rw [hp]; exact List.mem_append_left _ hi
    obtain ⟨i1, i2⟩ := rS.1 hi2
    have hri : rs[i]? = some (rs.getD i default) := by rw [List.getD_eq_getElem?_getD, List.getElem?_eq_getElem (by omega)]; rfl
    refine (hpair i _ (hlt i hi) hri).resolve_left fun k => ?_
    rw [Nat.zero_add] at k
    have := hanc i k
    have h2 : i < listed.size := by omega
    simp [Array.getD_eq_getD_getElem?, h2] at this i2
    rw [this] at i2
    cases i2
   rw [hp, List.map_append, List.map_cons] at hr hc
   obtain ⟨f1, G1, E', b1, b2, b3⟩ := aMr hO _ hr hER.nodup hL hc hind fun t n hpl => .inr fun v hv => by
    have := (hER.slot hv).1
    exact this.rb (by rw [← hER.st.len]; exact Nat.le_refl _)
   have hrem : hI ops.size (listed.setIfInBounds j true) = pre ++ post := aK8 hs hp
   have hcj := hc.ccalm (rs.getD j default) (List.mem_append_right _ (List.mem_cons_self ..))
   refine aIc hT ho (hrow j o _ (by simpa using ho) hrj) b1 hER fun a' w' S' bl' g x => ?_
   refine ih (listed.setIfInBounds j true) (e := f1) (E := E') (H := G1) (by simpa using hs) (fun k hk i hi => ?_) ?_ ?_ (U4 hO hL hcj.1 hcj.2 b1) ?_ (b3.symm.trans hE) g fun a'' w'' S'' bl'' g' x' => hQ _ _ _ _ g' (x.trans x')
   ·refine getD_set_true ?_
    by_cases hkj : j = k
    ·subst hkj
     rw [List.getD_eq_getElem?_getD, hm, Option.getD_some] at hi
     exact hanc i hi
    ·rw [getD_set_ne false hkj] at hk
     exact hcl k hk i hi
   ·rw [hrem]
    rw [hp] at hf
    simp only [List.length_append, List.length_cons] at hf ⊢
    omega
   ·rw [hrem, List.map_append]; exact b2
   ·rw [hrem, List.map_append]
    exact (hc.subl ((List.Sublist.refl _).append (List.sublist_cons_self ..))).eeq b3
theorem ER.drew {S : Nat → Nat → Prop} {bl : List Nat} {e : aQ} {H : aB} {a : Act} {w : World} (h : ER lim B F nt S bl e H a w) : ER lim B F nt S bl e H a { w with drawn := w.drawn + 1 } ∧ Ext lim B F S bl H w S bl H { w with drawn := w.drawn + 1 } :=
 ⟨⟨h.nodup, h.bnd, h.st.drew.1, h.size, h.defers, h.room⟩, h.st.drew.2⟩
theorem aN5 (hT : CallOK P T) (hO : OrcOK T pure) (hm : P.follows .mixedOrders = true) {id : Nat} {conf : List (Nat × Nat × Nat × Nat)} {free fps : List Nat} {ops : Array Oper} {rs : List eJ} {Q : Exit → Act → World → Prop} {e E : aQ} {H HE : aB} {a : Act} {w : World} {S : Nat → Nat → Prop} {bl : List Nat}
 (hok : pG P nt ops ops.toList rs = true) (hd : aD3 pure conf free fps ops.toList rs = true) (hr : lB T lim rs e H = some (E, HE)) (hc : gK e = true) (h1 : nK conf E = true) (h2 : hU free E = true) (h3 : sS fps E = true)
 (h : ER lim B F nt S bl e H a w) (hQ : ∀ a' w' S' bl', ER lim B F nt S' bl' E HE a' w' → Ext lim B F S bl H w S' bl' HE w' → Q .normal a' w') : (Code.region id ops true).wp P Q a w := by
 refine wp_region_any hm ?_
 obtain ⟨g, x⟩ := h.drew
 have hD := aN4 hd
 have hlen : ops.size = rs.length := by rw [← (y8 hok).1]; simp
 have hst : hI ops.size (Array.replicate ops.size false) = List.range ops.size := by
  unfold hI
  refine List.filter_eq_self.2 fun i hi => ?_
  have : i < ops.size := by simpa using hi
  simp [Array.getD_eq_getD_getElem?, this]
 have hmap : (List.range ops.size).map (fun i => rs.getD i default) = rs := by
  refine List.ext_getElem (by simp [hlen]) fun i hi1 hi2 => ?_
  simp [List.getD_eq_getElem?_getD, hi2]
 refine aK9 hT hO hok hD (Z1 hr h.nodup) ops.size _ (e := e) (E := E) (H := H) (by simp) (fun k hk i _ => ?_) (by rw [hst]; simp) (by rw [hst, hmap]; exact hr) (fun t v _ hv => (C5 h.nodup).1 hc t v hv)
  (by rw [hst, hmap]; exact ⟨fun r hr => ⟨hD.dcalm r hr, aIp hr⟩, h1, h2, h3, hD.sconf, hD.sfree, hD.sfps⟩) (EEq.refl _) g fun a' w' S' bl' g' x' => hQ _ _ _ _ g' (x.trans x')
 by_cases hkn : k < ops.size
 ·simp [Array.getD_eq_getD_getElem?, hkn] at hk
 ·simp [Array.getD_eq_getD_getElem?, hkn] at hk
end
end Go.Abs
namespace Go.Abs
open Go.RowKit (Below)
def Ex.exit' : Ex → Exit
 | .nrm => .normal
 | .ret => .ret
 | .exit id => .exit id
theorem aCw (s : Nat) (v : V) : ∀ e : aQ, (cO s v e).Perm ((s, v) :: e)
 | [] => .refl _
 | (t, u) :: e => by
   unfold cO
   split
   ·exact .refl _
   ·exact ((aCw s v e).cons (t, u)).trans (List.Perm.swap _ _ _)
theorem aAo (l : List Nat) : ∀ e : aQ, ∃ e0 : aQ, e0.Sublist e ∧ (aZ l e).Perm e0
 | [] => ⟨[], .refl _, .refl _⟩
 | (s, v) :: e => by
   obtain ⟨e0, h1, h2⟩ := aAo l e
   simp only [aZ]
   split
   ·exact ⟨(s, v) :: e0, h1.cons_cons _, (aCw s v _).trans (h2.cons _)⟩
   ·exact ⟨e0, h1.cons _, h2⟩
section
variable {P : Program} {lim : Option Nat} {B : Nat} {F : List Nat} {nt : Nat} {T : Orc} {pure : FuncId → Bool}
theorem ER.keep {S : Nat → Nat → Prop} {bl l : List Nat} {e : aQ} {H : aB} {a : Act} {w : World} (h : ER lim B F nt S bl e H a w) : ER lim B F nt S bl (aZ l e) H a w := by
 obtain ⟨e0, h1, h2⟩ := aAo l e
 exact (h.sub h1).perm h2
theorem aOj {S S0 : Nat → Nat → Prop} {bl bl' : List Nat} {e : aQ} {H H' : aB} {a : Act} {w w0 : World} (hl : H.length = bl.length) (hw : ∀ (i : Nat) cs, H[i]? = some cs → V.rbL H.length cs = true) (h : ER lim B F nt S bl' e H' a w) (x : Ext lim B F S0 bl H w0 S bl' H' w) :
 ∃ bl'', ER lim B F nt S bl'' e (cK lim H e H') a w ∧ Ext lim B F S0 bl H w0 S bl'' (cK lim H e H') w := by
 unfold cK
 split
 ·rename_i l
  split
  ·rename_i hh
   obtain ⟨h1, h2, h3, h4⟩ := hh
   rw [List.all_eq_true] at h3
   refine ⟨bl'.take H.length, ⟨h.nodup, h.bnd, ?_, h.size, h.defers, h.room⟩, ⟨x.keeps, x.frame, x.below, fun i b hb => ?_, ?_, fun l' hl' => ⟨(x.objs l' hl').1, ?_⟩⟩⟩
   ·refine h.st.cut (m := H.length) (fun p hp => ?_) ⟨l, rfl, h1, fun i cs q1 q2 q3 => St.kept_all hw h4 i cs q1 q2 q3⟩ (by omega)
    obtain ⟨q, hq, rfl⟩ := List.mem_map.1 hp
    exact h3 q hq
   ·have := (List.getElem?_eq_some_iff.1 hb).1
    rw [List.getElem?_take, if_pos (by omega)]
    exact x.bls i b hb
   ·rw [List.length_take]; omega
   ·cases hl'
    rw [List.take_take, Nat.min_eq_left h1]
    exact (x.objs l rfl).2
  ·exact ⟨bl', h, x⟩
 ·exact ⟨bl', h, x⟩
theorem tA (hT : CallOK P T) (hO : OrcOK T pure) (hm : P.follows .mixedOrders = true) (k : Nat) : ∀ (x : C) (c : Code) {Q : Exit → Act → World → Prop} {ex : Ex} {e e' : aQ} {H H' : aB} {a : Act} {w : World} {S : Nat → Nat → Prop} {bl : List Nat},
 okC P nt pure c x = true → d7 T lim k x e H = some (ex, e', H') → ER lim B F nt S bl e H a w → (∀ a' w' S' bl', ER lim B F nt S' bl' e' H' a' w' → Ext lim B F S bl H w S' bl' H' w' → Q ex.exit' a' w') → c.wp P Q a w
 | .nop, c, Q, ex, e, e', H, H', a, w, S, bl, hok, hx, h, hQ => by
   cases c <;> simp only [okC] at hok <;> try cases hok
   cases hx
   exact wp_skip (hQ _ _ _ _ h (Ext.refl _ _ _ _ _ _ _))
 | .exit i, c, Q, ex, e, e', H, H', a, w, S, bl, hok, hx, h, hQ => by
   cases c <;> simp only [okC] at hok <;> try cases hok
   rename_i j
   simp only [beq_iff_eq] at hok
   subst hok
   cases hx
   exact wp_exit (hQ _ _ _ _ h (Ext.refl _ _ _ _ _ _ _))
 | .ret, c, Q, ex, e, e', H, H', a, w, S, bl, hok, hx, h, hQ => by
   cases c <;> simp only [okC] at hok <;> try cases hok
   cases hx
   exact wp_ret (hQ _ _ _ _ h (Ext.refl _ _ _ _ _ _ _))
 | .reg keep conf free fps rows, c, Q, ex, e, e', H, H', a, w, S, bl, hok, hx, h, hQ => by
   cases c <;> simp only [okC] at hok <;> try cases hok
   rename_i id ops draw
   simp only [Bool.and_eq_true] at hok
   simp only [d7] at hx
   split at hx
   ·cases hx
   ·rename_i hc
    obtain ⟨⟨E, HE⟩, h1, h2⟩ := Option.bind_eq_some_iff.1 hx
    simp only at h2
    split at h2
    ·rename_i hh
     simp only [Bool.and_eq_true] at hh
     cases h2
     cases draw with
     | false => exact aGz hT hok.1 h1 h fun a' w' S' bl' g y => hQ _ _ _ _ (ER.keep g) y
     | true =>
       exact aN5 hT hO hm hok.1 (by simpa using hok.2) h1 (by simpa using hc) hh.1.1 hh.1.2 hh.2 h fun a' w' S' bl' g y => hQ _ _ _ _ (ER.keep g) y
    ·cases h2
 | .seq x y, c, Q, ex, e, e', H, H', a, w, S, bl, hok, hx, h, hQ => by
   cases c <;> simp only [okC] at hok <;> try cases hok
   simp only [Bool.and_eq_true] at hok
   obtain ⟨⟨ex1, e1, H1⟩, h1, h2⟩ := Option.bind_eq_some_iff.1 (show (d7 T lim k x e H).bind _ = some (ex, e', H') from hx)
   refine wp_seq (tA hT hO hm k x _ hok.1 h1 h fun a' w' S' bl' g z => ?_)
   cases ex1 with
   | nrm => exact tA hT hO hm k y _ hok.2 h2 g fun a'' w'' S'' bl'' g' z' => hQ _ _ _ _ g' (z.trans z')
   | ret => cases h2; exact hQ _ _ _ _ g z
   | exit i => cases h2; exact hQ _ _ _ _ g z
 | .cnd z x y, c, Q, ex, e, e', H, H', a, w, S, bl, hok, hx, h, hQ => by
   cases c <;> simp only [okC] at hok <;> try cases hok
   rename_i oc c1 c2
   simp only [Bool.and_eq_true] at hok
   obtain ⟨⟨v, e1⟩, h1, h2⟩ := Option.bind_eq_some_iff.1 (show (eI z e).bind _ = some (ex, e', H') from hx)
   cases v <;> try cases h2
   rename_i t
   obtain ⟨g, hs⟩ := i5 (us := []) hok.1.1 h1 h.nodup h.st
   have hb := (g.rep _ (List.mem_cons_self ..)).bool_inv
   have h3 := h.sub hs
   refine wp_cond hb ?_
   cases t with
   | true => exact tA hT hO hm k x _ hok.1.2 h2 h3 hQ
   | false => exact tA hT hO hm k y _ hok.2 h2 h3 hQ
 | .blk j x, c, Q, ex, e, e', H, H', a, w, S, bl, hok, hx, h, hQ => by
   cases c <;> simp only [okC] at hok <;> try cases hok
   rename_i i c
   simp only [Bool.and_eq_true, beq_iff_eq] at hok
   obtain ⟨rfl, hok⟩ := hok
   obtain ⟨⟨ex1, e1, H1⟩, h1, h2⟩ := Option.map_eq_some_iff.1 (show (d7 T lim k x e H).map _ = some (ex, e', H') from hx)
   refine wp_block (tA hT hO hm k x _ hok h1 h fun a' w' S' bl' g z => ?_)
   cases ex1 with
   | nrm => cases h2; exact hQ _ _ _ _ g z
   | ret => cases h2; exact hQ _ _ _ _ g z
   | exit j =>
     simp only at h2
     by_cases hj : j = i
     ·rw [if_pos hj] at h2
      cases h2
      simp only [Ex.exit', Exit.inBlock, if_pos hj]
      exact hQ _ _ _ _ g z
     ·rw [if_neg hj] at h2
      cases h2
      simp only [Ex.exit', Exit.inBlock, if_neg hj]
      exact hQ _ _ _ _ g z
 | .loop x, c, Q, ex, e, e', H, H', a, w, S, bl, hok, hx, h, hQ => by
   cases c <;> simp only [okC] at hok <;> try cases hok
   rename_i c
   have key : ∀ (n : Nat) {e : aQ} {H : aB} {a : Act} {w : World} {S : Nat → Nat → Prop} {bl : List Nat}, D0 lim (d7 T lim k x) n e H = some (ex, e', H') → ER lim B F nt S bl e H a w →
    (∀ a' w' S' bl', ER lim B F nt S' bl' e' H' a' w' → Ext lim B F S bl H w S' bl' H' w' → Q ex.exit' a' w') → Code.rounds P c Q n a w := by
    intro n
    induction n with
    | zero => intro e H a w S bl hx; cases hx
    | succ n ih =>
      intro e H a w S bl hx h hQ
      obtain ⟨⟨ex1, e1, H1⟩, h1, h2⟩ := Option.bind_eq_some_iff.1 (show (d7 T lim k x e H).bind _ = some (ex, e', H') from hx)
      rw [rounds_succ]
      refine tA hT hO hm k x c hok h1 h fun a' w' S' bl' g z => ?_
      cases ex1 with
      | nrm =>
        obtain ⟨bl'', g1, z1⟩ := aOj h.st.len h.st.wf g z
        exact ih h2 g1 fun a'' w'' S'' bl'' g' z' => hQ _ _ _ _ g' (z1.trans z')
      | ret => cases h2; exact hQ _ _ _ _ g z
      | exit i => cases h2; exact hQ _ _ _ _ g z
   exact wp_loop_rounds k (key k hx h hQ)
end
end Go.Abs
namespace Go.Abs
open Go.RowKit (Below)
section
variable {P : Program} {lim : Option Nat} {B : Nat} {F : List Nat} {nt : Nat} {S : Nat → Nat → Prop} {bl : List Nat} {vals : List (V × Value)} {H : aB} {w : World}
theorem aJa {a : Act} {e : aQ} (hn : (cY e).Nodup) {n : Nat} {v : V} (h : eget e n = some v) : (eV a e).Perm ((v, a.tmps.getD n undef) :: eV a (aX e n)) :=
 (wF hn h).map (fun p : Nat × V => (p.2, a.tmps.getD p.1 undef))
theorem R0 : ∀ {l : List Nat}, aD4 l = true → l.Nodup
 | [], _ => List.nodup_nil
 | x :: r, h => by
   simp only [aD4, Bool.and_eq_true, Bool.not_eq_true', List.contains_eq_mem, decide_eq_false_iff_not] at h
   exact List.nodup_cons.2 ⟨h.1, R0 h.2⟩
def s4 (P : Program) (tmps : Array Value) (r : ResultVar) : Sem Value :=
 match r with
 | .tmp t => Pure.pure (tmps.getD t undef)
 | .cell a t => do loadVar t (← asAddr (tmps.getD a undef))
theorem aCz {t : TypeId} {d : TypeDesc} (ht : P.underlying t = some d) (hd : dQ P t = false) {ad : Addr} {c : Value} (hc : w.cell? ad = some c) : (loadVar t ad).run P w = .ok c w := by
 simp only [loadVar, Sem.run_bind, rW ht, Result.andThen_ok, hd, Bool.false_eq_true, if_false, run_load, hc]
theorem aD0 {t : TypeId} {n b o : Nat} (ht : dQ P t = true) (hz : fP P t n = true) {ds : List Value} (hl : ds.length = n) (hc : ∀ (j : Nat) c, ds[j]? = some c → w.cell? ⟨b, o + j, none⟩ = some c) :
 (loadVar t ⟨b, o, none⟩).run P w = .ok (.agg ds.toArray) w := by
 obtain ⟨d, hd⟩ : ∃ d, P.underlying t = some d := by
  unfold dQ at ht
  cases h : P.underlying t with
  | none => rw [h] at ht; cases ht
  | some d => exact ⟨d, rfl⟩
 simp only [loadVar, Sem.run_bind, rW hd, Result.andThen_ok, ht, if_true, bT hz, eA (P := P) hl hc, Sem.run_pure]
theorem aHs {a : Act} : ∀ {rvs : List ResultVar} {rs : List Rs} {us : List (V × Value)} {e e0 : aQ} {vs : List V}, tM P rvs rs = true → (rsT rs).Nodup → aP e0 H rs = some vs → (cY e).Nodup → (∀ n ∈ rsT rs, eget e n = eget e0 n) →
 (∀ n v, eget e0 n = some v → Rep S bl w v (a.tmps.getD n undef)) → St lim B F S bl (us ++ eV a e) H w →
 ∃ cs, (rvs.mapM (s4 P a.tmps)).run P w = .ok cs w ∧ St lim B F S bl (us ++ vs.zip cs) H w ∧ vs.length = cs.length ∧ ∀ v ∈ vs, v.noVia = true
 | [], [], us, e, e0, vs, _, _, hr, _, _, _, h => by
   cases hr
   exact ⟨[], rfl, by simpa using h.subl (List.sublist_append_left us (eV a e)), rfl, by simp⟩
 | [], _ :: _, _, _, _, _, hok, _, _, _, _, _, _ => by simp [tM] at hok
 | _ :: _, [], _, _, _, _, hok, _, _, _, _, _, _ => by simp [tM] at hok
 | rv :: rvs, r :: rs, us, e, e0, vs, hok, hnd, hr, hn, heq, hrep, h => by
   obtain ⟨v, h1, h2⟩ := Option.bind_eq_some_iff.1 (show (M6 e0 H r).bind (fun v => if v.noVia then (aP e0 H rs).map (v :: ·) else none) = some vs from hr)
   split at h2
   ·rename_i hv
    obtain ⟨vs', h3, rfl⟩ := Option.map_eq_some_iff.1 h2
    suffices H0 : ∃ (c : Value) (e1 : aQ), (s4 P a.tmps rv).run P w = .ok c w ∧ tM P rvs rs = true ∧ (cY e1).Nodup ∧ (∀ n ∈ rsT rs, eget e1 n = eget e0 n) ∧ (rsT rs).Nodup ∧ St lim B F S bl (us ++ [(v, c)] ++ eV a e1) H w by
     obtain ⟨c, e1, k1, k2, k3, k4, k5, k6⟩ := H0
     obtain ⟨cs, l1, l2, l3, l4⟩ := aHs (us := us ++ [(v, c)]) k2 k5 h3 k3 k4 hrep k6
     refine ⟨c :: cs, ?_, by simpa using l2, by simp [l3], ?_⟩
     ·simp only [List.mapM_cons, Sem.run_bind, k1, Result.andThen_ok, l1, Sem.run_pure]
     ·intro u hu
      rcases List.mem_cons.1 hu with rfl | hu
      ·exact hv
      ·exact l4 u hu
    cases r with
    | t n =>
      cases rv with
      | cell _ _ => simp [tM] at hok
      | tmp t =>
      simp only [tM, Bool.and_eq_true, beq_iff_eq] at hok
      obtain ⟨rfl, hok⟩ := hok
      simp only [rsT, List.nodup_cons] at hnd
      have hg : eget e t = some v := by rw [heq t (by simp [rsT])]; exact h1
      refine ⟨a.tmps.getD t undef, aX e t, by simp [s4], hok, xO t hn, fun m hm => ?_, hnd.2, h.perm ?_⟩
      ·rw [hJ, if_neg, heq m (by simp [rsT, hm])]
       rintro rfl
       exact hnd.1 hm
      ·rw [List.append_assoc]
       exact .append_left us (aJa hn hg).symm
    | cell n =>
      cases rv with
      | tmp _ => simp [tM] at hok
      | cell ad t =>
      simp only [tM, Bool.and_eq_true, beq_iff_eq, Bool.not_eq_true'] at hok
      obtain ⟨⟨⟨rfl, hag⟩, hu⟩, hok⟩ := hok
      obtain ⟨d, hd⟩ := Option.isSome_iff_exists.1 hu
      simp only [M6] at h1
      split at h1
      ·rename_i id o hg
       obtain ⟨x, hx, rfl⟩ := Option.map_eq_some_iff.1 h1
       obtain ⟨b, hb, hp⟩ := (hrep _ _ hg).ptr_inv
       obtain ⟨hs, c, hc, hr'⟩ := h.get hx hb
       refine ⟨c, e, ?_, hok, hn, fun m hm => heq m (by simp [rsT, hm]), by simpa [rsT] using hnd, ?_⟩
       ·simp only [s4, hp, asAddr, Sem.run_bind, Sem.run_pure, Result.andThen_ok]
        exact aCz hd hag hc
       ·rw [List.append_assoc]
        refine (h.add0 (v := x.dis1) (c := c) hr'.dis1 ?_).perm List.perm_middle
        exact (fV (.inr trivial) (.inl (V.dis1_single hs))).trans (fF _ _)
      ·cases h1
    | cells n sz =>
      cases rv with
      | tmp _ => simp [tM] at hok
      | cell ad t =>
      simp only [tM, Bool.and_eq_true, beq_iff_eq] at hok
      obtain ⟨⟨⟨rfl, hag⟩, hz⟩, hok⟩ := hok
      simp only [M6] at h1
      split at h1
      ·rename_i id o hg
       obtain ⟨x, hx, rfl⟩ := Option.map_eq_some_iff.1 h1
       obtain ⟨b, hb, hp⟩ := (hrep _ _ hg).ptr_inv
       obtain ⟨hl, ds, hr1, hr2, hr3⟩ := h.cells hx hb
       have hl2 := ((aK _ _).1 hr1).1
       refine ⟨.agg ds.toArray, e, ?_, hok, hn, fun m hm => heq m (by simp [rsT, hm]), by simpa [rsT] using hnd, ?_⟩
       ·simp only [s4, hp, asAddr, Sem.run_bind, Sem.run_pure, Result.andThen_ok]
        exact aD0 hag hz (by omega) hr2
       ·rw [List.append_assoc]
        refine (h.add0 (v := .agg (x.map V.dis1)) (c := .agg ds.toArray) ?_ (uB _ _)).perm List.perm_middle
        simp only [Rep]
        exact ⟨_, rfl, by simpa using hr1.dis1, fun u hu => by obtain ⟨y, hy, rfl⟩ := List.mem_map.1 hu; exact V.dis1_single (hr3 y hy)⟩
      ·cases h1
   ·cases h2
theorem aJb (H : aB) (m : Nat) (v : V) (c : Value) : bP (cA H m v) c = bP v c := by
 unfold cA
 split
 ·split
  ·split
   ·cases c <;> rfl
   ·rfl
  ·rfl
 ·cases c <;> rfl
 ·rfl
theorem R1 (H : aB) (m : Nat) : ∀ (vs : List V) (cs : List Value), aT (vs.map (cA H m)) cs = aT vs cs
 | [], _ => rfl
 | _ :: _, [] => rfl
 | v :: vs, c :: cs => by simp only [List.map_cons, aT, aJb, R1 H m vs cs]
theorem aL3 (H : aB) (m : Nat) (v : V) (c : Value) : cJ (gL H m v) c = cJ v c := by
 cases v with
 | ar sz id off n k =>
   simp only [gL, cA]
   split
   ·split <;> cases c <;> rfl
   ·rfl
 | nls => cases c <;> rfl
 | agg cs => cases c <;> first | rfl | exact R1 H m cs _
 | _ => rfl
theorem aEp (H : aB) (m : Nat) {v : V} (h : v.single = true) : (cA H m v).single = true := by
 unfold cA
 split
 ·split
  ·split <;> rfl
  ·rfl
 ·rfl
 ·exact h
theorem aJc (H : aB) (m : Nat) {v : V} (h : v.noVia = true) : (gL H m v).noVia = true := by
 cases v <;> first | exact h | (simp only [gL, cA]; split <;> first | rfl | (split <;> rfl)) | rfl
def More (S : Nat → Nat → Prop) (bl : List Nat) (m : Nat) (w : World) (b o : Nat) : Prop := S b o ∨ (∃ id, m ≤ id ∧ bl[id]? = some b) ∧ (w.cell? ⟨b, o, none⟩).isSome = true
theorem More.keeps (S : Nat → Nat → Prop) (bl : List Nat) (m : Nat) (w : World) : Keeps S w (More S bl m w) w := ⟨fun _ _ h => .inl h, fun _ _ _ => rfl, fun _ _ h => h⟩
theorem R2 (h : St lim B F S bl vals H w) {m : Nat} {v : V} {c : Value} (hv : v.noVia = true) (hr : Rep S bl w v c) (hb : (cA H m v).rb m = true) : Rep (More S bl m w) (bl.take m) w (cA H m v) c := by
 have plain : ∀ u : V, u.noVia = true → u.rb m = true → Rep S bl w u c → Rep (More S bl m w) (bl.take m) w u c := fun u h1 h2 h3 =>
  Rep.cut u c h2 (Rep.mono (More.keeps S bl m w) (fun _ _ e => e) u c h1 h3)
 cases v with
 | ar sz id off n k =>
   simp only [cA] at hb ⊢
   by_cases hm : m ≤ id
   ·rw [if_pos hm] at hb ⊢
    cases hc : bX H id off (n * sz) with
    | none =>
      rw [hc] at hb
      simp only [V.rb, decide_eq_true_eq] at hb
      omega
    | some cs =>
      rw [hc] at hb
      simp only [V.rb] at hb ⊢
      simp only [Rep] at hr ⊢
      obtain ⟨b, cap, h1, h2, rfl, _⟩ := hr
      obtain ⟨hl, ds, d1, d2, d3⟩ := h.cells hc h1
      refine ⟨_, cap, rfl, Nat.le_trans h2.1 h2.2, (fun e => by cases e), fun ad had => ?_⟩
      cases had
      refine ⟨fun _ => rfl, ?_⟩
      rw [kP]
      intro j u hj
      rw [List.getElem?_map] at hj
      obtain ⟨x, hx, rfl⟩ := Option.map_eq_some_iff.1 hj
      obtain ⟨hjl, _⟩ := List.getElem?_eq_some_iff.1 hx
      have hl2 := ((aK _ _).1 d1).1
      have hdj : ds[j]? = some ds[j] := List.getElem?_eq_getElem (by omega)
      have hcell := d2 j _ hdj
      have hxm := List.mem_of_getElem? hx
      refine ⟨.inr ⟨⟨id, hm, h1⟩, by rw [hcell]; rfl⟩, V.dis1_single (d3 x hxm), ds[j], hcell, ?_⟩
      have hrx := (((aK _ _).1 d1).2 j x ds[j] hx hdj).dis1
      exact Rep.cut _ _ (V.rbL_iff.1 hb _ (List.mem_map.2 ⟨x, hxm, rfl⟩)) (Rep.mono (More.keeps S bl m w) (fun _ _ e => e) _ _ (V.dis1_noVia x) hrx)
   ·rw [if_neg hm] at hb ⊢
    exact plain _ hv hb hr
 | nls =>
   simp only [cA, Rep] at hr ⊢
   subst hr
   exact ⟨none, 0, rfl, Nat.le_refl _, fun _ => by simp, fun ad e => by cases e⟩
 | _ => exact plain _ hv hb hr
end
end Go.Abs
