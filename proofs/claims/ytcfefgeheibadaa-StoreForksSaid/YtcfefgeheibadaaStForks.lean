/-
  StoreForks: the law's code tells true.
-/
import Derived.Test.YtcfefgeheibadaaSt7
namespace Go.Abs
open Go.Proofs.Ytcfefgeheibadaa
attribute [local irreducible] enL R RR kSeq kBlk kLp kReg kFin kFn apply evs evX edel ekeep eins fillV lay resAll finish trim mayW frz frz1 V.rb V.rbL
/-- Two stores of the program (0, p) and two of the document (1, q), none of which hears of another. -/
structure A4 (p q : Nat) (room : Int) (H : Heap) (v : V) (L Lr : List Item) (w : V) (M Mr : List Item) : Prop where
  s : StoreAt H 0 room L v
  m : H[1]? = some (rsto room Lr)
  t : StoreAt H p room M w
  n : H[q]? = some (rsto room Mr)
  c : p ≠ 0 ∧ p ≠ 1 ∧ q ≠ 0 ∧ q ≠ 1 ∧ p ≠ q
  fv : ∀ i ∈ foot v, i ≠ 1 ∧ i ≠ p ∧ i ≠ q ∧ i ∉ foot w
  fw : ∀ i ∈ foot w, i ≠ 0 ∧ i ≠ 1 ∧ i ≠ q
section
variable {p q : Nat} {room : Int} {H H1 : Heap} {v v1 w w1 : V} {L L1 Lr M M1 Mr : List Item}
theorem A4.os (h : A4 p q room H v L Lr w M Mr) (s1 : StoreAt H1 0 room L1 v1) (f : Fr H H1 (0 :: foot v)) (t : Foot v v1 H) : A4 p q room H1 v1 L1 Lr w M Mr := by
  obtain ⟨c1, c2, c3, c4, c5⟩ := h.c
  have l1 := (List.getElem?_eq_some_iff.1 h.m).1
  have l2 := (List.getElem?_eq_some_iff.1 h.n).1
  have l3 := h.t.lt
  have l4 := h.t.flt
  refine ⟨s1, f.get h.m ?_, h.t.fr f ?_ ?_, f.get h.n ?_, h.c, ?_, h.fw⟩
  · intro k; rcases List.mem_cons.1 k with k | k
    · cases k
    · exact (h.fv 1 k).1 rfl
  · intro k; rcases List.mem_cons.1 k with k | k
    · exact c1 k
    · exact (h.fv p k).2.1 rfl
  · intro i hi k; rcases List.mem_cons.1 k with k | k
    · exact (h.fw i hi).1 k
    · exact (h.fv i k).2.2.2 hi
  · intro k; rcases List.mem_cons.1 k with k | k
    · exact c3 k
    · exact (h.fv q k).2.2.1 rfl
  · intro i hi
    rcases t i hi with k | k
    · exact h.fv i k
    · exact ⟨by omega, by omega, by omega, fun k' => by have := l4 i k'; omega⟩
theorem A4.ot (h : A4 p q room H v L Lr w M Mr) (s1 : StoreAt H1 p room M1 w1) (f : Fr H H1 (p :: foot w)) (t : Foot w w1 H) : A4 p q room H1 v L Lr w1 M1 Mr := by
  obtain ⟨c1, c2, c3, c4, c5⟩ := h.c
  have l0 := h.s.lt
  have l1 := (List.getElem?_eq_some_iff.1 h.m).1
  have l2 := (List.getElem?_eq_some_iff.1 h.n).1
  have l4 := h.s.flt
  refine ⟨h.s.fr f ?_ ?_, f.get h.m ?_, s1, f.get h.n ?_, h.c, ?_, ?_⟩
  · intro k; rcases List.mem_cons.1 k with k | k
    · exact c1 k.symm
    · exact (h.fw 0 k).1 rfl
  · intro i hi k; rcases List.mem_cons.1 k with k | k
    · exact (h.fv i hi).2.1 k
    · exact (h.fv i hi).2.2.2 k
  · intro k; rcases List.mem_cons.1 k with k | k
    · exact c2 k.symm
    · exact (h.fw 1 k).2.1 rfl
  · intro k; rcases List.mem_cons.1 k with k | k
    · exact c5 k.symm
    · exact (h.fw q k).2.2 rfl
  · intro i hi
    obtain ⟨d1, d2, d3, d4⟩ := h.fv i hi
    refine ⟨d1, d2, d3, fun k => ?_⟩
    rcases t i k with k | k
    · exact d4 k
    · have := l4 i hi; omega
  · intro i hi
    rcases t i hi with k | k
    · exact h.fw i k
    · exact ⟨by omega, by omega, by omega⟩
theorem A4.om (h : A4 p q room H v L Lr w M Mr) : A4 p q room (H.set 1 (rsto room L1)) v L L1 w M Mr := by
  obtain ⟨c1, c2, c3, c4, c5⟩ := h.c
  have l1 := (List.getElem?_eq_some_iff.1 h.m).1
  exact ⟨h.s.fr fr_set1 (by simp) (fun i hi k => (h.fv i hi).1 (by simpa using k)), List.getElem?_set_self l1, h.t.fr fr_set1 (by simpa using c2) (fun i hi k => (h.fw i hi).2.1 (by simpa using k)), fr_set1.get h.n (by simpa using c4), h.c, h.fv, h.fw⟩
theorem A4.on (h : A4 p q room H v L Lr w M Mr) : A4 p q room (H.set q (rsto room M1)) v L Lr w M M1 := by
  obtain ⟨c1, c2, c3, c4, c5⟩ := h.c
  have l1 := (List.getElem?_eq_some_iff.1 h.n).1
  exact ⟨h.s.fr fr_set1 (by simpa using fun e => c3 e.symm) (fun i hi k => (h.fv i hi).2.2.1 (by simpa using k)), fr_set1.get h.m (by simpa using fun e => c4 e.symm), h.t.fr fr_set1 (by simpa using c5) (fun i hi k => (h.fw i hi).2.2 (by simpa using k)), List.getElem?_set_self l1, h.c, h.fv, h.fw⟩
theorem A4.fr (h : A4 p q room H v L Lr w M Mr) (f : Fr H H1 []) : A4 p q room H1 v L Lr w M Mr :=
  ⟨h.s.fr f (by simp) (by simp), f.get h.m (by simp), h.t.fr f (by simp) (by simp), f.get h.n (by simp), h.c, h.fv, h.fw⟩
theorem A4.app (h : A4 p q room H v L Lr w M Mr) {X : Heap} : A4 p q room (H ++ X) v L Lr w M Mr := h.fr fr_app
theorem A4.round {G H2 : Heap} {e : Env} {v0 w0 : V} {L0 Lr0 M0 Mr0 : List Item} (h0 : A4 p q room G v0 L0 Lr0 w0 M0 Mr0) (h : A4 p q room H v L Lr w M Mr) (k : H2 = H ∨ (H2 = H.take G.length ∧ G.length < H.length ∧ e.all (fun p => p.2.rb G.length) = true ∧ KB 0 G H)) : A4 p q room H2 v L Lr w M Mr :=
  ⟨sto_round h0.s h.s (Nat.zero_le _) k, get_round h0.m h.m k, sto_round h0.t h.t (Nat.zero_le _) k, get_round h0.n h.n k, h.c, h.fv, h.fw⟩
end
def Bd (L : List Item) : Prop := L.length ≤ 64 ∧ ∀ x ∈ L, x.body.length ≤ 100
theorem takeL_bd {l : List Item} {i : Int} (h : l.length ≤ 64) (k : ∀ x ∈ l, x.body.length ≤ 100) : (takeL l i).length ≤ 64 ∧ ∀ x ∈ takeL l i, x.body.length ≤ 100 := by
  unfold takeL; split
  · exact ⟨by rw [List.length_eraseIdx]; split <;> omega, fun x hx => k x (List.mem_of_mem_eraseIdx hx)⟩
  · exact ⟨h, k⟩
theorem putL_ok {room : Int} {l : List Item} {x : Item} (hr : room ≤ 64) (hx : x.body.length ≤ 60) (h : l.length ≤ 64) (k : ∀ x ∈ l, x.body.length ≤ 100) : (putL room l x).length ≤ 64 ∧ ∀ y ∈ putL room l x, y.body.length ≤ 100 := ⟨putL_len hr h, putL_bd hx k⟩
structure Fk1 (room : Int) (t : Heap × V × List Item) : Prop where
  st : StoreAt t.1 0 room t.2.2 t.2.1
  rf : t.1[1]? = some (rsto room t.2.2)
  f1 : 1 ∉ foot t.2.1
  bd : Bd t.2.2
def Fk2 (p q : Nat) (room : Int) (t : Heap × V × List Item × V × List Item) : Prop := A4 p q room t.1 t.2.1 t.2.2.1 t.2.2.1 t.2.2.2.1 t.2.2.2.2 t.2.2.2.2 ∧ Bd t.2.2.1 ∧ Bd t.2.2.2.2
theorem own_v {m : Nat} {H : Heap} {v : V} {l : List Item} (h : Own m H v l) : v = .nls ∨ ∃ q, v = .ar 4 q 0 l.length l.length := by
  rcases h with ⟨rfl, _⟩ | ⟨q, _, rfl, _⟩
  · exact .inl rfl
  · exact .inr ⟨q, rfl⟩
set_option maxHeartbeats 16000000 in
theorem forkRound {la lb : List Deed} {p q i : Nat} {room : Int} {e0 : Env} {κ : Out → Option (V × Heap)} {H : Heap} {v w : V} {L M : List Item} (hla : la.length ≤ 50) (hlb : lb.length ≤ 50) (hr : 0 ≤ room ∧ room ≤ 64)
    (hsa : ∀ d ∈ la, d.x.body.length ≤ 60) (hsb : ∀ d ∈ lb, d.x.body.length ≤ 60) (hi : i < max la.length lb.length) (hP : A4 p q room H v L L w M M) (hL : Bd L) (hM : Bd M)
    (he : e0 = [(2, .sl none la.length (enL la)), (3, .sl none lb.length (enL lb)), (9, .ptr 0 0), (10, .ptr 1 0), (12, .ptr p 0), (13, .ptr q 0), (14, .int .i64 0)])
    (ih : ∀ t', Fk2 p q room t' → Ev (R tab (some 0) (.loop l_law21_StoreForks_0) (upd [(14, .int .i64 (i + 1 : Nat))] e0) t'.1 (kBlk 2 κ)) (Is (some (.bool true, [])))) :
    Ev (R tab (some 0) (.loop l_law21_StoreForks_0) (upd [(14, .int .i64 i)] e0) H (kBlk 2 κ)) (Is (some (.bool true, []))) := by
  subst he
  obtain ⟨c1, c2, c3, c4, c5⟩ := hP.c
  refine upd_to (by dsimp only [upd, lk, Nat.reduceBEq, cond_true, cond_false, Option.getD_some, Option.getD_none]; first | done | exact rfl) ?_; refine r_loop ?_
  unfold l_law21_StoreForks_0
  unfold Bd at hL hM
  by_cases hA : i < la.length
  · obtain ⟨x, hx⟩ := getq hA
    have hxb := hsa x (List.mem_of_getElem? hx)
    obtain ⟨H1, v1, e1, s1, r1, t1⟩ := (take_any (i := x.n) hP.s (Nat.zero_le _) (fun _ _ => Nat.zero_le _) (by omega)).so
    have a1 := (hP.os s1 r1 t1).app (X := [Xc (if takeB L x.n = true then takeX L x.n else ⟨0, 0, 0, []⟩)])
    have e2 := rtake_s (i := x.n) (lm := 0) a1.m (Nat.zero_le _) (by omega)
    have hT := takeL_bd (i := x.n) hL.1 hL.2
    unfold rtakeV at e2
    generalize (if takeB L x.n = true then takeX L x.n else (⟨0, 0, 0, []⟩ : Item)) = X at *
    generalize takeL L x.n = L1 at *
    have a2 := (a1.om (L1 := L1)).app (X := [Xc X])
    have x1 : ((H1 ++ [Xc X]).set 1 (rsto room L1) ++ [Xc X])[H1.length]? = some (Xc X) := by
      have := (List.getElem?_eq_some_iff.1 (hP.os s1 r1 t1).m).1
      rw [List.getElem?_append_left (by simp only [List.length_set, List.length_append, List.length_singleton]; omega), List.getElem?_set_ne (by omega), List.getElem?_append_right (Nat.le_refl _), Nat.sub_self]; rfl
    have x2 := sameI_refl X
    obtain ⟨H3, v3, e3, s3, r3, t3⟩ := (put_any (x := x.x) a2.s (Nat.zero_le _) (fun _ _ => Nat.zero_le _) (by omega)).so
    have a3 := a2.os s3 r3 t3
    have e4 := rput_s (x := x.x) (lm := 0) a3.m (Nat.zero_le _) (by omega) (by omega)
    have hPu := putL_ok (x := x.x) hr.2 hxb hT.1 hT.2
    generalize putL room L1 x.x = L3 at *
    have hA4 := a3.om (L1 := L3)
    by_cases hB : i < lb.length
    · obtain ⟨y, hy⟩ := getq hB
      have hyb := hsb y (List.mem_of_getElem? hy)
      obtain ⟨H5, w5, e5, s5, r5, t5⟩ := (put_any (x := y.x) hA4.t (Nat.zero_le _) (fun _ _ => Nat.zero_le _) (by omega)).so
      have a5 := hA4.ot s5 r5 t5
      have e6 := rput_s (x := y.x) (lm := 0) a5.n (Nat.zero_le _) (by omega) (by omega)
      have hMu := putL_ok (x := y.x) hr.2 hyb hM.1 hM.2
      generalize putL room M y.x = M3 at *
      have hB4 := a5.on (M1 := M3)
      repeat' (first | (show zz; first | (show zo; refine y_op ?_) | (show zf; first | refine y_gF ?_ | refine y_sk ?_) | (show zm; refine y_mv ?_) | (show zr; refine y_reg ?_) | (show zc; refine y_call ?_ (ha := by first | exact e1 | exact e2 | exact (by rw [sameItem_s, x2]) | exact e3 | exact num_s | exact e4 | exact e5 | exact num_s | exact e6 | assumption)) | (show zn; refine y_calln ?_ (ha := by first | exact e1 | exact e2 | exact (by rw [sameItem_s, x2]) | exact e3 | exact num_s | exact e4 | exact e5 | exact num_s | exact e6 | assumption)) | (show zO; refine y_op0 ?_) | (show ze; refine y_ext ?_) | (show zt; first | refine y_gT ?_ | refine y_sk ?_) | (show zp; refine y_pk ?_) | (show zC; refine y_call0 ?_ (ha := by first | exact e1 | exact e2 | exact (by rw [sameItem_s, x2]) | exact e3 | exact num_s | exact e4 | exact e5 | exact num_s | exact e6 | assumption)) | (show zv; refine y_cav ?_ (ha := by first | exact e1 | exact e2 | exact (by rw [sameItem_s, x2]) | exact e3 | exact num_s | exact e4 | exact e5 | exact num_s | exact e6 | assumption)) | (show zV; refine y_cav0 ?_ (ha := by first | exact e1 | exact e2 | exact (by rw [sameItem_s, x2]) | exact e3 | exact num_s | exact e4 | exact e5 | exact num_s | exact e6 | assumption)) | (show zF; first | refine y_hF ?_ | refine y_sk0 ?_) | (show zT; first | refine y_hT ?_ | refine y_sk0 ?_) | fail) | (show gA; first | (show gD; first | refine gc_tD ?_ | refine gc_fD ?_ | refine gc_D (fun _ => ?_) fun _ => ?_) | (show gE; first | refine gc_tE ?_ | refine gc_fE ?_ | refine gc_E (fun _ => ?_) fun _ => ?_) | (show gN; first | refine gc_tN ?_ | refine gc_fN ?_ | refine gc_N (fun _ => ?_) fun _ => ?_) | refine gc_tB ?_ | refine gc_fB ?_ | refine gc_tS ?_ | refine gc_fS ?_ | refine gc_B (fun _ => ?_) fun _ => ?_) | (show zR; first | (show zs; refine r_seq ?_) | (show zg; refine R_reg rfl ?_) | (show zd; refine y_cnd ?_) | refine r_ret ?_ | refine r_nop ?_ | refine r_blk ?_ | refine r_exit ?_ | fail) | refine k_seq_nrm ?_ | refine k_seq_ret ?_ | refine k_seq_exit ?_ | refine k_blk_nrm ?_ | refine k_blk_ret ?_ | refine k_blk_hit ?_ | refine k_blk_miss (by decide) ?_ | refine k_lp_ret ?_ | refine k_lp_exit ?_ | (show zk; refine y_fin ?_) | (show zj; refine is_ev ?_) | fail)
      refine y_lpA fun H8 hH8 => ?_
      exact ih (H8, v3, L3, w5, M3) ⟨hP.round hB4 hH8, hPu, hMu⟩
    · repeat' (first | (show zz; first | (show zo; refine y_op ?_) | (show zf; first | refine y_gF ?_ | refine y_sk ?_) | (show zm; refine y_mv ?_) | (show zr; refine y_reg ?_) | (show zc; refine y_call ?_ (ha := by first | exact e1 | exact e2 | exact (by rw [sameItem_s, x2]) | exact e3 | exact num_s | exact e4 | assumption)) | (show zn; refine y_calln ?_ (ha := by first | exact e1 | exact e2 | exact (by rw [sameItem_s, x2]) | exact e3 | exact num_s | exact e4 | assumption)) | (show zO; refine y_op0 ?_) | (show ze; refine y_ext ?_) | (show zt; first | refine y_gT ?_ | refine y_sk ?_) | (show zp; refine y_pk ?_) | (show zC; refine y_call0 ?_ (ha := by first | exact e1 | exact e2 | exact (by rw [sameItem_s, x2]) | exact e3 | exact num_s | exact e4 | assumption)) | (show zv; refine y_cav ?_ (ha := by first | exact e1 | exact e2 | exact (by rw [sameItem_s, x2]) | exact e3 | exact num_s | exact e4 | assumption)) | (show zV; refine y_cav0 ?_ (ha := by first | exact e1 | exact e2 | exact (by rw [sameItem_s, x2]) | exact e3 | exact num_s | exact e4 | assumption)) | (show zF; first | refine y_hF ?_ | refine y_sk0 ?_) | (show zT; first | refine y_hT ?_ | refine y_sk0 ?_) | fail) | (show gA; first | (show gD; first | refine gc_tD ?_ | refine gc_fD ?_ | refine gc_D (fun _ => ?_) fun _ => ?_) | (show gE; first | refine gc_tE ?_ | refine gc_fE ?_ | refine gc_E (fun _ => ?_) fun _ => ?_) | (show gN; first | refine gc_tN ?_ | refine gc_fN ?_ | refine gc_N (fun _ => ?_) fun _ => ?_) | refine gc_tB ?_ | refine gc_fB ?_ | refine gc_tS ?_ | refine gc_fS ?_ | refine gc_B (fun _ => ?_) fun _ => ?_) | (show zR; first | (show zs; refine r_seq ?_) | (show zg; refine R_reg rfl ?_) | (show zd; refine y_cnd ?_) | refine r_ret ?_ | refine r_nop ?_ | refine r_blk ?_ | refine r_exit ?_ | fail) | refine k_seq_nrm ?_ | refine k_seq_ret ?_ | refine k_seq_exit ?_ | refine k_blk_nrm ?_ | refine k_blk_ret ?_ | refine k_blk_hit ?_ | refine k_blk_miss (by decide) ?_ | refine k_lp_ret ?_ | refine k_lp_exit ?_ | (show zk; refine y_fin ?_) | (show zj; refine is_ev ?_) | fail)
      refine y_lpA fun H8 hH8 => ?_
      exact ih (H8, v3, L3, w, M) ⟨hP.round hA4 hH8, hPu, hM⟩
  · have hB : i < lb.length := by omega
    obtain ⟨y, hy⟩ := getq hB
    have hyb := hsb y (List.mem_of_getElem? hy)
    obtain ⟨H5, w5, e5, s5, r5, t5⟩ := (put_any (x := y.x) hP.t (Nat.zero_le _) (fun _ _ => Nat.zero_le _) (by omega)).so
    have a5 := hP.ot s5 r5 t5
    have e6 := rput_s (x := y.x) (lm := 0) a5.n (Nat.zero_le _) (by omega) (by omega)
    have hMu := putL_ok (x := y.x) hr.2 hyb hM.1 hM.2
    generalize putL room M y.x = M3 at *
    have hB4 := a5.on (M1 := M3)
    repeat' (first | (show zz; first | (show zo; refine y_op ?_) | (show zf; first | refine y_gF ?_ | refine y_sk ?_) | (show zm; refine y_mv ?_) | (show zr; refine y_reg ?_) | (show zc; refine y_call ?_ (ha := by first | exact e5 | exact num_s | exact e6 | assumption)) | (show zn; refine y_calln ?_ (ha := by first | exact e5 | exact num_s | exact e6 | assumption)) | (show zO; refine y_op0 ?_) | (show ze; refine y_ext ?_) | (show zt; first | refine y_gT ?_ | refine y_sk ?_) | (show zp; refine y_pk ?_) | (show zC; refine y_call0 ?_ (ha := by first | exact e5 | exact num_s | exact e6 | assumption)) | (show zv; refine y_cav ?_ (ha := by first | exact e5 | exact num_s | exact e6 | assumption)) | (show zV; refine y_cav0 ?_ (ha := by first | exact e5 | exact num_s | exact e6 | assumption)) | (show zF; first | refine y_hF ?_ | refine y_sk0 ?_) | (show zT; first | refine y_hT ?_ | refine y_sk0 ?_) | fail) | (show gA; first | (show gD; first | refine gc_tD ?_ | refine gc_fD ?_ | refine gc_D (fun _ => ?_) fun _ => ?_) | (show gE; first | refine gc_tE ?_ | refine gc_fE ?_ | refine gc_E (fun _ => ?_) fun _ => ?_) | (show gN; first | refine gc_tN ?_ | refine gc_fN ?_ | refine gc_N (fun _ => ?_) fun _ => ?_) | refine gc_tB ?_ | refine gc_fB ?_ | refine gc_tS ?_ | refine gc_fS ?_ | refine gc_B (fun _ => ?_) fun _ => ?_) | (show zR; first | (show zs; refine r_seq ?_) | (show zg; refine R_reg rfl ?_) | (show zd; refine y_cnd ?_) | refine r_ret ?_ | refine r_nop ?_ | refine r_blk ?_ | refine r_exit ?_ | fail) | refine k_seq_nrm ?_ | refine k_seq_ret ?_ | refine k_seq_exit ?_ | refine k_blk_nrm ?_ | refine k_blk_ret ?_ | refine k_blk_hit ?_ | refine k_blk_miss (by decide) ?_ | refine k_lp_ret ?_ | refine k_lp_exit ?_ | (show zk; refine y_fin ?_) | (show zj; refine is_ev ?_) | fail)
    refine y_lpA fun H8 hH8 => ?_
    exact ih (H8, v, L, w5, M3) ⟨hP.round hB4 hH8, hL, hMu⟩
set_option maxHeartbeats 16000000 in
theorem storeForks {us : List V} (h : TyAs [.int .u8, .sl tyDeed, .sl tyDeed, .sl tyDeed] us) : Call tab none f_law21_StoreForks us [] = some (.bool true, []) := by
  obtain ⟨_, _, rfl, h1, _, _, rfl, h2, _, _, rfl, h3, _, _, rfl, h4, rfl⟩ := h
  obtain ⟨a, rfl, ha⟩ := ty_int h1
  obtain ⟨l, rfl, hl1, _⟩ := ty_sl (fun _ => tv_deed) h2
  obtain ⟨la, rfl, hl2, _⟩ := ty_sl (fun _ => tv_deed) h3
  obtain ⟨lb, rfl, hl3, _⟩ := ty_sl (fun _ => tv_deed) h4
  have ha := wf_u8 ha
  clear h1 h2 h3 h4
  have hs : ∀ (k : List Deed) (H : Heap), k.length ≤ 140737488351232 → Call tab (some 0) f_law21_small [.sl none k.length (enL k), .int .i64 50] H = some (.bool (decide ((k.length : Int) ≤ 50) && short k), H) := fun k H q => small_s q
  have hsh : ∀ k : List Deed, (decide ((k.length : Int) ≤ 50) && short k) = true → k.length ≤ 50 ∧ ∀ d ∈ k, d.x.body.length ≤ 60 := fun k hk => by
    simp only [short, Bool.and_eq_true, decide_eq_true_eq, List.all_eq_true] at hk
    exact ⟨by omega, hk.2⟩
  have q1 := hs l [] hl1
  have q2 := hs la [] hl2
  have q3 := hs lb [] hl3
  ((first | refine ev_is ?_ | skip); refine cl_P (H0 := []) (cf := c_law21_StoreForks) rfl rfl rfl rfl (by (repeat' (first | assumption | exact enL_rb _ _ | exact rb_int | exact rb_bool | exact rb_str | exact rb_nil | refine rb_sl ?_ | refine rb_cons ?_ ?_ | refine rb_set ?_ ?_ | refine rb_agg ?_ | refine rb_app ?_ ?_ | refine rb_ptr ?_ | (simp only [V.rb]; done) | (simp only [V.rb, V.rbL]; done) | exact Nat.lt_of_lt_of_le (Nat.lt_succ_self _) (Nat.le_of_ble_eq_true rfl) | omega)); (first | done | fail)) ?_; unfold c_law21_StoreForks; dsimp only [initEnv, Nat.reduceAdd, Nat.zero_add])
  cases k1 : (decide ((l.length : Int) ≤ 50) && short l) with
  | false =>
    rw [k1] at q1
    repeat' (first | (show zz; first | (show zo; refine y_op ?_) | (show zf; first | refine y_gF ?_ | refine y_sk ?_) | (show zm; refine y_mv ?_) | (show zr; refine y_reg ?_) | (show zc; refine y_call ?_ (ha := by first | exact alive21_s | exact q1 | exact q2 | exact q3 | assumption)) | (show zn; refine y_calln ?_ (ha := by first | exact alive21_s | exact q1 | exact q2 | exact q3 | assumption)) | (show zO; refine y_op0 ?_) | (show ze; refine y_ext ?_) | (show zt; first | refine y_gT ?_ | refine y_sk ?_) | (show zp; refine y_pk ?_) | (show zC; refine y_call0 ?_ (ha := by first | exact alive21_s | exact q1 | exact q2 | exact q3 | assumption)) | (show zv; refine y_cav ?_ (ha := by first | exact alive21_s | exact q1 | exact q2 | exact q3 | assumption)) | (show zV; refine y_cav0 ?_ (ha := by first | exact alive21_s | exact q1 | exact q2 | exact q3 | assumption)) | (show zF; first | refine y_hF ?_ | refine y_sk0 ?_) | (show zT; first | refine y_hT ?_ | refine y_sk0 ?_) | fail) | (show gA; first | (show gD; first | refine gc_tD ?_ | refine gc_fD ?_ | refine gc_D (fun _ => ?_) fun _ => ?_) | (show gE; first | refine gc_tE ?_ | refine gc_fE ?_ | refine gc_E (fun _ => ?_) fun _ => ?_) | (show gN; first | refine gc_tN ?_ | refine gc_fN ?_ | refine gc_N (fun _ => ?_) fun _ => ?_) | refine gc_tB ?_ | refine gc_fB ?_ | refine gc_tS ?_ | refine gc_fS ?_ | refine gc_B (fun _ => ?_) fun _ => ?_) | (show zR; first | (show zs; refine r_seq ?_) | (show zg; refine R_reg rfl ?_) | (show zd; refine y_cnd ?_) | refine r_ret ?_ | refine r_nop ?_ | refine r_blk ?_ | refine r_exit ?_ | fail) | refine k_seq_nrm ?_ | refine k_seq_ret ?_ | refine k_seq_exit ?_ | refine k_blk_nrm ?_ | refine k_blk_ret ?_ | refine k_blk_hit ?_ | refine k_blk_miss (by decide) ?_ | refine k_lp_ret ?_ | refine k_lp_exit ?_ | (show zk; refine y_fin ?_) | (show zj; refine is_ev ?_) | fail)
    all_goals rfl
  | true =>
  rw [k1] at q1
  cases k2 : (decide ((la.length : Int) ≤ 50) && short la) with
  | false =>
    rw [k2] at q2
    repeat' (first | (show zz; first | (show zo; refine y_op ?_) | (show zf; first | refine y_gF ?_ | refine y_sk ?_) | (show zm; refine y_mv ?_) | (show zr; refine y_reg ?_) | (show zc; refine y_call ?_ (ha := by first | exact alive21_s | exact q1 | exact q2 | exact q3 | assumption)) | (show zn; refine y_calln ?_ (ha := by first | exact alive21_s | exact q1 | exact q2 | exact q3 | assumption)) | (show zO; refine y_op0 ?_) | (show ze; refine y_ext ?_) | (show zt; first | refine y_gT ?_ | refine y_sk ?_) | (show zp; refine y_pk ?_) | (show zC; refine y_call0 ?_ (ha := by first | exact alive21_s | exact q1 | exact q2 | exact q3 | assumption)) | (show zv; refine y_cav ?_ (ha := by first | exact alive21_s | exact q1 | exact q2 | exact q3 | assumption)) | (show zV; refine y_cav0 ?_ (ha := by first | exact alive21_s | exact q1 | exact q2 | exact q3 | assumption)) | (show zF; first | refine y_hF ?_ | refine y_sk0 ?_) | (show zT; first | refine y_hT ?_ | refine y_sk0 ?_) | fail) | (show gA; first | (show gD; first | refine gc_tD ?_ | refine gc_fD ?_ | refine gc_D (fun _ => ?_) fun _ => ?_) | (show gE; first | refine gc_tE ?_ | refine gc_fE ?_ | refine gc_E (fun _ => ?_) fun _ => ?_) | (show gN; first | refine gc_tN ?_ | refine gc_fN ?_ | refine gc_N (fun _ => ?_) fun _ => ?_) | refine gc_tB ?_ | refine gc_fB ?_ | refine gc_tS ?_ | refine gc_fS ?_ | refine gc_B (fun _ => ?_) fun _ => ?_) | (show zR; first | (show zs; refine r_seq ?_) | (show zg; refine R_reg rfl ?_) | (show zd; refine y_cnd ?_) | refine r_ret ?_ | refine r_nop ?_ | refine r_blk ?_ | refine r_exit ?_ | fail) | refine k_seq_nrm ?_ | refine k_seq_ret ?_ | refine k_seq_exit ?_ | refine k_blk_nrm ?_ | refine k_blk_ret ?_ | refine k_blk_hit ?_ | refine k_blk_miss (by decide) ?_ | refine k_lp_ret ?_ | refine k_lp_exit ?_ | (show zk; refine y_fin ?_) | (show zj; refine is_ev ?_) | fail)
    all_goals rfl
  | true =>
  rw [k2] at q2
  cases k3 : (decide ((lb.length : Int) ≤ 50) && short lb) with
  | false =>
    rw [k3] at q3
    repeat' (first | (show zz; first | (show zo; refine y_op ?_) | (show zf; first | refine y_gF ?_ | refine y_sk ?_) | (show zm; refine y_mv ?_) | (show zr; refine y_reg ?_) | (show zc; refine y_call ?_ (ha := by first | exact alive21_s | exact q1 | exact q2 | exact q3 | assumption)) | (show zn; refine y_calln ?_ (ha := by first | exact alive21_s | exact q1 | exact q2 | exact q3 | assumption)) | (show zO; refine y_op0 ?_) | (show ze; refine y_ext ?_) | (show zt; first | refine y_gT ?_ | refine y_sk ?_) | (show zp; refine y_pk ?_) | (show zC; refine y_call0 ?_ (ha := by first | exact alive21_s | exact q1 | exact q2 | exact q3 | assumption)) | (show zv; refine y_cav ?_ (ha := by first | exact alive21_s | exact q1 | exact q2 | exact q3 | assumption)) | (show zV; refine y_cav0 ?_ (ha := by first | exact alive21_s | exact q1 | exact q2 | exact q3 | assumption)) | (show zF; first | refine y_hF ?_ | refine y_sk0 ?_) | (show zT; first | refine y_hT ?_ | refine y_sk0 ?_) | fail) | (show gA; first | (show gD; first | refine gc_tD ?_ | refine gc_fD ?_ | refine gc_D (fun _ => ?_) fun _ => ?_) | (show gE; first | refine gc_tE ?_ | refine gc_fE ?_ | refine gc_E (fun _ => ?_) fun _ => ?_) | (show gN; first | refine gc_tN ?_ | refine gc_fN ?_ | refine gc_N (fun _ => ?_) fun _ => ?_) | refine gc_tB ?_ | refine gc_fB ?_ | refine gc_tS ?_ | refine gc_fS ?_ | refine gc_B (fun _ => ?_) fun _ => ?_) | (show zR; first | (show zs; refine r_seq ?_) | (show zg; refine R_reg rfl ?_) | (show zd; refine y_cnd ?_) | refine r_ret ?_ | refine r_nop ?_ | refine r_blk ?_ | refine r_exit ?_ | fail) | refine k_seq_nrm ?_ | refine k_seq_ret ?_ | refine k_seq_exit ?_ | refine k_blk_nrm ?_ | refine k_blk_ret ?_ | refine k_blk_hit ?_ | refine k_blk_miss (by decide) ?_ | refine k_lp_ret ?_ | refine k_lp_exit ?_ | (show zk; refine y_fin ?_) | (show zj; refine is_ev ?_) | fail)
    all_goals rfl
  | true =>
  rw [k3] at q3
  obtain ⟨n1, s1⟩ := hsh l k1
  obtain ⟨n2, s2⟩ := hsh la k2
  obtain ⟨n3, s3⟩ := hsh lb k3
  repeat' (first | (show zz; first | (show zo; refine y_op ?_) | (show zf; first | refine y_gF ?_ | refine y_sk ?_) | (show zm; refine y_mv ?_) | (show zr; refine y_reg ?_) | (show zc; refine y_call ?_ (ha := by first | exact alive21_s | exact q1 | exact q2 | exact q3 | exact new_s | exact rnew_s | assumption)) | (show zn; refine y_calln ?_ (ha := by first | exact alive21_s | exact q1 | exact q2 | exact q3 | exact new_s | exact rnew_s | assumption)) | (show zO; refine y_op0 ?_) | (show ze; refine y_ext ?_) | (show zt; first | refine y_gT ?_ | refine y_sk ?_) | (show zp; refine y_pk ?_) | (show zC; refine y_call0 ?_ (ha := by first | exact alive21_s | exact q1 | exact q2 | exact q3 | exact new_s | exact rnew_s | assumption)) | (show zv; refine y_cav ?_ (ha := by first | exact alive21_s | exact q1 | exact q2 | exact q3 | exact new_s | exact rnew_s | assumption)) | (show zV; refine y_cav0 ?_ (ha := by first | exact alive21_s | exact q1 | exact q2 | exact q3 | exact new_s | exact rnew_s | assumption)) | (show zF; first | refine y_hF ?_ | refine y_sk0 ?_) | (show zT; first | refine y_hT ?_ | refine y_sk0 ?_) | fail) | (show gA; first | (show gD; first | refine gc_tD ?_ | refine gc_fD ?_ | refine gc_D (fun _ => ?_) fun _ => ?_) | (show gE; first | refine gc_tE ?_ | refine gc_fE ?_ | refine gc_E (fun _ => ?_) fun _ => ?_) | (show gN; first | refine gc_tN ?_ | refine gc_fN ?_ | refine gc_N (fun _ => ?_) fun _ => ?_) | refine gc_tB ?_ | refine gc_fB ?_ | refine gc_tS ?_ | refine gc_fS ?_ | refine gc_B (fun _ => ?_) fun _ => ?_) | (show zR; first | (show zs; refine r_seq ?_) | (show zg; refine R_reg rfl ?_) | (show zd; refine y_cnd ?_) | refine r_ret ?_ | refine r_nop ?_ | refine r_blk ?_ | refine r_exit ?_ | fail) | refine k_seq_nrm ?_ | refine k_seq_ret ?_ | refine k_seq_exit ?_ | refine k_blk_nrm ?_ | refine k_blk_ret ?_ | refine k_blk_hit ?_ | refine k_blk_miss (by decide) ?_ | refine k_lp_ret ?_ | refine k_lp_exit ?_ | (show zk; refine y_fin ?_) | (show zj; refine is_ev ?_) | fail)
  have hr : 0 ≤ min (max a 0) 64 ∧ min (max a 0) 64 ≤ 64 := by omega
  generalize min (max a 0) 64 = room at hr ⊢
  have s0 : StoreAt [[.int .i64 room, .nls], rsto room []] 0 room [] .nls := ⟨rfl, .inl ⟨rfl, rfl⟩, by simp [foot]⟩
  show Ev (R tab (some 0) (.loop l_law21_StoreForks_1) [(1, .sl none l.length (enL l)), (2, .sl none la.length (enL la)), (3, .sl none lb.length (enL lb)), (9, .ptr 0 0), (10, .ptr 1 0), (11, .int .i64 0)] [[.int .i64 room, .nls], rsto room []] _) _
  refine lp_v l.length (fun i (t : Heap × V × List Item) => [(11, .int .i64 i)]) (fun _ t => t.1) (fun _ t => Fk1 room t) ?_ ?_ (_, .nls, []) ⟨s0, rfl, by simp [foot], by simp [Bd]⟩
  · rintro i ⟨G, v, L⟩ hi hP ih
    obtain ⟨st, rf, f1, bd⟩ := hP
    simp only [Bd] at st rf f1 bd
    obtain ⟨d, hd⟩ := getq hi
    have hdb := s1 d (List.mem_of_getElem? hd)
    obtain ⟨H1, v1, e1, s1, r1, t1⟩ := (put_any (x := d.x) st (Nat.zero_le _) (fun _ _ => Nat.zero_le _) (by omega)).so
    have rf1 := r1.get rf (by simpa using f1)
    have e2 := rput_s (x := d.x) (lm := 0) rf1 (Nat.zero_le _) (by omega) (by omega)
    have g1 : 1 ∉ foot v1 := fun k => (t1 1 k).elim f1 fun k => by have := (List.getElem?_eq_some_iff.1 rf).1; omega
    have hPu := putL_ok (x := d.x) hr.2 hdb bd.1 bd.2
    generalize putL room L d.x = L2 at *
    have s2 := s1.fr (fr_set1 (i := 1) (c := rsto room L2)) (by simp) (fun q hq hn => g1 (by simp at hn; subst hn; exact hq))
    have rf2 : (H1.set 1 (rsto room L2))[1]? = some (rsto room L2) := List.getElem?_set_self (List.getElem?_eq_some_iff.1 rf1).1
    refine upd_to (by dsimp only [upd, lk, Nat.reduceBEq, cond_true, cond_false, Option.getD_some, Option.getD_none]; first | done | exact rfl) ?_; refine r_loop ?_
    unfold l_law21_StoreForks_1
    repeat' (first | (show zz; first | (show zo; refine y_op ?_) | (show zf; first | refine y_gF ?_ | refine y_sk ?_) | (show zm; refine y_mv ?_) | (show zr; refine y_reg ?_) | (show zc; refine y_call ?_ (ha := by first | exact e1 | exact e2 | assumption)) | (show zn; refine y_calln ?_ (ha := by first | exact e1 | exact e2 | assumption)) | (show zO; refine y_op0 ?_) | (show ze; refine y_ext ?_) | (show zt; first | refine y_gT ?_ | refine y_sk ?_) | (show zp; refine y_pk ?_) | (show zC; refine y_call0 ?_ (ha := by first | exact e1 | exact e2 | assumption)) | (show zv; refine y_cav ?_ (ha := by first | exact e1 | exact e2 | assumption)) | (show zV; refine y_cav0 ?_ (ha := by first | exact e1 | exact e2 | assumption)) | (show zF; first | refine y_hF ?_ | refine y_sk0 ?_) | (show zT; first | refine y_hT ?_ | refine y_sk0 ?_) | fail) | (show gA; first | (show gD; first | refine gc_tD ?_ | refine gc_fD ?_ | refine gc_D (fun _ => ?_) fun _ => ?_) | (show gE; first | refine gc_tE ?_ | refine gc_fE ?_ | refine gc_E (fun _ => ?_) fun _ => ?_) | (show gN; first | refine gc_tN ?_ | refine gc_fN ?_ | refine gc_N (fun _ => ?_) fun _ => ?_) | refine gc_tB ?_ | refine gc_fB ?_ | refine gc_tS ?_ | refine gc_fS ?_ | refine gc_B (fun _ => ?_) fun _ => ?_) | (show zR; first | (show zs; refine r_seq ?_) | (show zg; refine R_reg rfl ?_) | (show zd; refine y_cnd ?_) | refine r_ret ?_ | refine r_nop ?_ | refine r_blk ?_ | refine r_exit ?_ | fail) | refine k_seq_nrm ?_ | refine k_seq_ret ?_ | refine k_seq_exit ?_ | refine k_blk_nrm ?_ | refine k_blk_ret ?_ | refine k_blk_hit ?_ | refine k_blk_miss (by decide) ?_ | refine k_lp_ret ?_ | refine k_lp_exit ?_ | (show zk; refine y_fin ?_) | (show zj; refine is_ev ?_) | fail)
    refine y_lpA fun H8 hH8 => ?_
    exact ih (H8, v1, L2) ⟨sto_round st s2 (Nat.zero_le _) hH8, get_round rf rf2 hH8, g1, hPu⟩
  · rintro ⟨G, v, L⟩ hP
    obtain ⟨st, rf, f1, bd⟩ := hP
    simp only [Bd] at st rf f1 bd
    obtain ⟨H1, p, w, e1, s1, hp, hv, r1⟩ := (fork_any st (Nat.zero_le _) bd.2 (by omega)).so
    have l1 := (List.getElem?_eq_some_iff.1 rf).1
    have rf1 := r1.get rf (by simp)
    have rf1' := rf1
    unfold rsto at rf1'
    have e2 : ∀ H, Call tab (some 0) f_ref21_CopyItems [.sl none L.length (enL L)] H = some (.sl (some 4) L.length (enL L), H) := fun H => rcopyItems_s (fun x hx => by have := bd.2 x hx; omega) (by omega)
    have l0 := st.flt
    have l2 := s1.flt
    have l3 := s1.lt
    have A : A4 p H1.length room (H1 ++ [rsto room L]) v L L w L L := by
      have hl := r1.len
      refine ⟨(st.fr r1 (by simp) (by simp)).app, by rw [List.getElem?_append_left (by omega)]; exact rf1, s1.app, by rw [List.getElem?_append_right (Nat.le_refl _), Nat.sub_self]; rfl, by omega, fun i hi => ?_, fun i hi => ?_⟩
      · have := l0 i hi
        exact ⟨fun e => f1 (by rw [← e]; exact hi), by omega, by omega, fun k => by have := hv i k; omega⟩
      · have := hv i hi
        have := l2 i hi
        omega
    refine upd_to (by dsimp only [upd, lk, Nat.reduceBEq, cond_true, cond_false, Option.getD_some, Option.getD_none]; first | done | exact rfl) ?_; refine r_loop ?_
    unfold l_law21_StoreForks_1
    repeat' (first | (show zz; first | (show zo; refine y_op ?_) | (show zf; first | refine y_gF ?_ | refine y_sk ?_) | (show zm; refine y_mv ?_) | (show zr; refine y_reg ?_) | (show zc; refine y_call ?_ (ha := by first | exact e1 | exact e2 _ | assumption)) | (show zn; refine y_calln ?_ (ha := by first | exact e1 | exact e2 _ | assumption)) | (show zO; refine y_op0 ?_) | (show ze; refine y_ext ?_) | (show zt; first | refine y_gT ?_ | refine y_sk ?_) | (show zp; refine y_pk ?_) | (show zC; refine y_call0 ?_ (ha := by first | exact e1 | exact e2 _ | assumption)) | (show zv; refine y_cav ?_ (ha := by first | exact e1 | exact e2 _ | assumption)) | (show zV; refine y_cav0 ?_ (ha := by first | exact e1 | exact e2 _ | assumption)) | (show zF; first | refine y_hF ?_ | refine y_sk0 ?_) | (show zT; first | refine y_hT ?_ | refine y_sk0 ?_) | fail) | (show gA; first | (show gD; first | refine gc_tD ?_ | refine gc_fD ?_ | refine gc_D (fun _ => ?_) fun _ => ?_) | (show gE; first | refine gc_tE ?_ | refine gc_fE ?_ | refine gc_E (fun _ => ?_) fun _ => ?_) | (show gN; first | refine gc_tN ?_ | refine gc_fN ?_ | refine gc_N (fun _ => ?_) fun _ => ?_) | refine gc_tB ?_ | refine gc_fB ?_ | refine gc_tS ?_ | refine gc_fS ?_ | refine gc_B (fun _ => ?_) fun _ => ?_) | (show zR; first | (show zs; refine r_seq ?_) | (show zg; refine R_reg rfl ?_) | (show zd; refine y_cnd ?_) | refine r_ret ?_ | refine r_nop ?_ | refine r_blk ?_ | refine r_exit ?_ | fail) | refine k_seq_nrm ?_ | refine k_seq_ret ?_ | refine k_seq_exit ?_ | refine k_blk_nrm ?_ | refine k_blk_ret ?_ | refine k_blk_hit ?_ | refine k_blk_miss (by decide) ?_ | refine k_lp_ret ?_ | refine k_lp_exit ?_ | (show zk; refine y_fin ?_) | (show zj; refine is_ev ?_) | fail)
    refine lp_v (max la.length lb.length) (fun i (_ : Heap × V × List Item × V × List Item) => [(14, .int .i64 i)]) (fun _ t => t.1) (fun _ t => Fk2 p H1.length room t) ?_ ?_ (_, v, L, w, L) ⟨A, bd, bd⟩
    · rintro i ⟨H, v, L, w, M⟩ hi ⟨hP, hL, hM⟩ ih
      exact forkRound n2 n3 hr s2 s3 hi hP hL hM rfl ih
    · rintro ⟨H, v, L, w, M⟩ ⟨hP, hL, hM⟩
      simp only [Bd] at hP hL hM
      generalize H1.length = q at hP ⊢
      obtain ⟨u1, K1, e3, o3, r3⟩ := (all_any hP.s (Nat.zero_le _) hL.2 (by omega)).so
      have hP1 := hP.fr r3
      obtain ⟨u2, K2, e4, o4, r4⟩ := (all_any hP1.t (Nat.zero_le _) hM.2 (by omega)).so
      have hP2 := hP1.fr r4
      have e5 : Call tab (some 0) f_ref21_SameItems [u1, .sl none L.length (enL L)] K1 = some (.bool true, K1) := sameItems_own o3 (by omega)
      have e6 : Call tab (some 0) f_ref21_SameItems [u2, .sl none M.length (enL M)] K2 = some (.bool true, K2) := sameItems_own o4 (by omega)
      have p3 := fr_pre r3
      have p4 := fr_pre r4
      have m1 := hP1.m
      have m2 := hP2.n
      unfold rsto at m1 m2
      have i1 : ¬ max la.length lb.length < la.length := by omega
      have i2 : ¬ max la.length lb.length < lb.length := by omega
      refine upd_to (by dsimp only [upd, lk, Nat.reduceBEq, cond_true, cond_false, Option.getD_some, Option.getD_none]; first | done | exact rfl) ?_; refine r_loop ?_
      unfold l_law21_StoreForks_0
      rcases own_v o3 with rfl | ⟨j1, rfl⟩
      all_goals rcases own_v o4 with rfl | ⟨j2, rfl⟩
      all_goals repeat' (first | (show zz; first | (show zo; refine y_op ?_) | (show zf; first | refine y_gF ?_ | refine y_sk ?_) | (show zm; refine y_mv ?_) | (show zr; refine y_reg ?_) | (show zc; refine y_call ?_ (ha := by first | exact e3 | exact e4 | exact e5 | exact e6 | assumption)) | (show zn; refine y_calln ?_ (ha := by first | exact e3 | exact e4 | exact e5 | exact e6 | assumption)) | (show zO; refine y_op0 ?_) | (show ze; refine y_ext ?_) | (show zt; first | refine y_gT ?_ | refine y_sk ?_) | (show zp; refine y_pk ?_) | (show zC; refine y_call0 ?_ (ha := by first | exact e3 | exact e4 | exact e5 | exact e6 | assumption)) | (show zv; refine y_cav ?_ (ha := by first | exact e3 | exact e4 | exact e5 | exact e6 | assumption)) | (show zV; refine y_cav0 ?_ (ha := by first | exact e3 | exact e4 | exact e5 | exact e6 | assumption)) | (show zF; first | refine y_hF ?_ | refine y_sk0 ?_) | (show zT; first | refine y_hT ?_ | refine y_sk0 ?_) | fail) | (show gA; first | (show gD; first | refine gc_tD ?_ | refine gc_fD ?_ | refine gc_D (fun _ => ?_) fun _ => ?_) | (show gE; first | refine gc_tE ?_ | refine gc_fE ?_ | refine gc_E (fun _ => ?_) fun _ => ?_) | (show gN; first | refine gc_tN ?_ | refine gc_fN ?_ | refine gc_N (fun _ => ?_) fun _ => ?_) | refine gc_tB ?_ | refine gc_fB ?_ | refine gc_tS ?_ | refine gc_fS ?_ | refine gc_B (fun _ => ?_) fun _ => ?_) | (show zR; first | (show zs; refine r_seq ?_) | (show zg; refine R_reg rfl ?_) | (show zd; refine y_cnd ?_) | refine r_ret ?_ | refine r_nop ?_ | refine r_blk ?_ | refine r_exit ?_ | fail) | refine k_seq_nrm ?_ | refine k_seq_ret ?_ | refine k_seq_exit ?_ | refine k_blk_nrm ?_ | refine k_blk_ret ?_ | refine k_blk_hit ?_ | refine k_blk_miss (by decide) ?_ | refine k_lp_ret ?_ | refine k_lp_exit ?_ | (show zk; refine y_fin ?_) | (show zj; refine is_ev ?_) | fail)
      all_goals rfl
end Go.Abs
