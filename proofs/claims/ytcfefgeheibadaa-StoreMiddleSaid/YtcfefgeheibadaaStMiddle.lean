/-
  StoreMiddle: the law's code tells true.
-/
import Derived.Test.YtcfefgeheibadaaSt6
namespace Go.Abs
open Go.Proofs.Ytcfefgeheibadaa
attribute [local irreducible] enL R RR kSeq kBlk kLp kReg kFin kFn apply evs evX edel ekeep eins fillV lay resAll finish trim mayW frz frz1 V.rb V.rbL
def mkI (n : Nat) : List Item := (List.range n).map fun (i : Nat) => ⟨0, 1, (i : Int) + 1, []⟩
theorem mkI_len (n : Nat) : (mkI n).length = n := by simp [mkI]
theorem mkI_body {n : Nat} : ∀ x ∈ mkI n, x.body.length ≤ 100 := by
  intro x hx
  simp only [mkI, List.mem_map] at hx
  obtain ⟨i, _, rfl⟩ := hx
  simp
theorem mkI_put {n : Int} {i : Nat} (h : (i : Int) < n) (hn : n ≤ 1000) : putE n (mkI i).length ⟨0, 1, (i : Int) + 1, []⟩ = 0 ∧ putL n (mkI i) ⟨0, 1, (i : Int) + 1, []⟩ = mkI (i + 1) := by
  have e : putE n (mkI i).length ⟨0, 1, (i : Int) + 1, []⟩ = 0 := by
    have : itemOK ⟨0, 1, (i : Int) + 1, []⟩ = true := by simp only [itemOK, pOK, Bool.and_eq_true, decide_eq_true_eq]; omega
    rw [putE, if_pos this, if_neg (by simp), if_neg (by rw [mkI_len]; omega)]
  refine ⟨e, ?_⟩
  rw [putL, e, if_pos rfl]
  simp [mkI, List.range_succ]
theorem mkI_get {n k i : Nat} (hk : k < n) (hi : i < n - 1) : ((mkI n).eraseIdx k)[i]? = some ⟨0, 1, (if k ≤ i then (i : Int) + 2 else i + 1), []⟩ := by
  rw [List.getElem?_eraseIdx]
  split
  · rw [if_neg (by omega), mkI, List.getElem?_map, List.getElem?_range (by omega)]; rfl
  · rw [if_pos (by omega), mkI, List.getElem?_map, List.getElem?_range (by omega)]
    show some (Item.mk 0 1 (((i + 1 : Nat) : Int) + 1) []) = _
    rw [show ((i + 1 : Nat) : Int) + 1 = (i : Int) + 2 by omega]
set_option maxHeartbeats 4000000 in
theorem storeMiddle {us : List V} (h : TyAs [.int .u8, .int .u8] us) : Call tab none f_law21_StoreMiddle us [] = some (.bool true, []) := by
  obtain ⟨_, _, rfl, h1, _, _, rfl, h2, rfl⟩ := h
  obtain ⟨a, rfl, ha⟩ := ty_int h1
  obtain ⟨b, rfl, hb⟩ := ty_int h2
  have ha := wf_u8 ha
  have hb := wf_u8 hb
  clear h1 h2
  obtain ⟨n, hn, hn1, hn2⟩ : ∃ n : Nat, IntKind.i64.wrap (1 + a.tmod 30) = n ∧ 1 ≤ n ∧ n ≤ 30 := by
    rw [Int.tmod_eq_emod_of_nonneg (by omega), IntWalk.i64_in _ (by omega)]
    exact ⟨(1 + a % 30).toNat, by omega, by omega, by omega⟩
  obtain ⟨k, hk, hk1⟩ : ∃ k : Nat, b.tmod n = k ∧ k < n := by
    rw [Int.tmod_eq_emod_of_nonneg (by omega)]
    have := Int.emod_lt_of_pos b (b := (n : Int)) (by omega)
    have := Int.emod_nonneg b (b := (n : Int)) (by omega)
    exact ⟨(b % n).toNat, by omega, by omega⟩
  have hm : min (max (n : Int) 0) 64 = n := by omega
  ((first | refine ev_is ?_ | skip); refine cl_P (H0 := []) (cf := c_law21_StoreMiddle) rfl rfl rfl rfl (by (repeat' (first | assumption | exact enL_rb _ _ | exact rb_int | exact rb_bool | exact rb_str | exact rb_nil | refine rb_sl ?_ | refine rb_cons ?_ ?_ | refine rb_set ?_ ?_ | refine rb_agg ?_ | refine rb_app ?_ ?_ | refine rb_ptr ?_ | (simp only [V.rb]; done) | (simp only [V.rb, V.rbL]; done) | exact Nat.lt_of_lt_of_le (Nat.lt_succ_self _) (Nat.le_of_ble_eq_true rfl) | omega)); (first | done | fail)) ?_; unfold c_law21_StoreMiddle; dsimp only [initEnv, Nat.reduceAdd, Nat.zero_add])
  repeat' (first | (show zz; first | (show zo; refine y_op ?_) | (show zf; first | refine y_gF ?_ | refine y_sk ?_) | (show zm; refine y_mv ?_) | (show zr; refine y_reg ?_) | (show zc; refine y_call ?_ (ha := by first | exact alive21_s | exact new_s | assumption)) | (show zn; refine y_calln ?_ (ha := by first | exact alive21_s | exact new_s | assumption)) | (show zO; refine y_op0 ?_) | (show ze; refine y_ext ?_) | (show zt; first | refine y_gT ?_ | refine y_sk ?_) | (show zp; refine y_pk ?_) | (show zC; refine y_call0 ?_ (ha := by first | exact alive21_s | exact new_s | assumption)) | (show zv; refine y_cav ?_ (ha := by first | exact alive21_s | exact new_s | assumption)) | (show zV; refine y_cav0 ?_ (ha := by first | exact alive21_s | exact new_s | assumption)) | (show zF; first | refine y_hF ?_ | refine y_sk0 ?_) | (show zT; first | refine y_hT ?_ | refine y_sk0 ?_) | fail) | (show gA; first | (show gD; first | refine gc_tD ?_ | refine gc_fD ?_ | refine gc_D (fun _ => ?_) fun _ => ?_) | (show gE; first | refine gc_tE ?_ | refine gc_fE ?_ | refine gc_E (fun _ => ?_) fun _ => ?_) | (show gN; first | refine gc_tN ?_ | refine gc_fN ?_ | refine gc_N (fun _ => ?_) fun _ => ?_) | refine gc_tB ?_ | refine gc_fB ?_ | refine gc_tS ?_ | refine gc_fS ?_ | refine gc_B (fun _ => ?_) fun _ => ?_) | (show zR; first | (show zs; refine r_seq ?_) | (show zg; refine R_reg rfl ?_) | (show zd; refine y_cnd ?_) | refine r_ret ?_ | refine r_nop ?_ | refine r_blk ?_ | refine r_exit ?_ | fail) | refine k_seq_nrm ?_ | refine k_seq_ret ?_ | refine k_seq_exit ?_ | refine k_blk_nrm ?_ | refine k_blk_ret ?_ | refine k_blk_hit ?_ | refine k_blk_miss (by decide) ?_ | refine k_lp_ret ?_ | refine k_lp_exit ?_ | (show zk; refine y_fin ?_) | (show zj; refine is_ev ?_) | fail)
  rw [hm]
  have s0 : StoreAt [[.int .i64 n, .nls]] 0 n [] .nls := ⟨rfl, .inl ⟨rfl, rfl⟩, by simp [foot]⟩
  refine lp_v n (fun i (_ : Heap × V) => [(7, .int .i64 i)]) (fun _ t => t.1) (fun i t => StoreAt t.1 0 n (mkI i) t.2) ?_ ?_ (_, .nls) s0
  · rintro i ⟨G, v⟩ hi hs ih
    simp only at hs
    have hp := mkI_put (n := n) (i := i) (by omega) (by omega)
    obtain ⟨H1, v1, e, st, fr, ft⟩ := (put_any (x := ⟨0, 1, (i : Int) + 1, []⟩) hs (Nat.le_refl 0) (fun _ _ => Nat.zero_le _) (by rw [mkI_len]; omega)).so
    rw [hp.1] at e
    rw [hp.2] at st
    have hw : IntKind.i64.wrap ((i : Int) + 1) = (i : Int) + 1 := IntWalk.i64_in _ (by omega)
    refine upd_to (by dsimp only [upd, lk, Nat.reduceBEq, cond_true, cond_false, Option.getD_some, Option.getD_none]; first | done | exact rfl) ?_; refine r_loop ?_
    unfold l_law21_StoreMiddle_1
    repeat' (first | (show zz; first | (show zo; refine y_op ?_) | (show zf; first | refine y_gF ?_ | refine y_sk ?_) | (show zm; refine y_mv ?_) | (show zr; refine y_reg ?_) | (show zc; refine y_call ?_ (ha := by first | exact item_s | exact e | assumption)) | (show zn; refine y_calln ?_ (ha := by first | exact item_s | exact e | assumption)) | (show zO; refine y_op0 ?_) | (show ze; refine y_ext ?_) | (show zt; first | refine y_gT ?_ | refine y_sk ?_) | (show zp; refine y_pk ?_) | (show zC; refine y_call0 ?_ (ha := by first | exact item_s | exact e | assumption)) | (show zv; refine y_cav ?_ (ha := by first | exact item_s | exact e | assumption)) | (show zV; refine y_cav0 ?_ (ha := by first | exact item_s | exact e | assumption)) | (show zF; first | refine y_hF ?_ | refine y_sk0 ?_) | (show zT; first | refine y_hT ?_ | refine y_sk0 ?_) | fail) | (show gA; first | (show gD; first | refine gc_tD ?_ | refine gc_fD ?_ | refine gc_D (fun _ => ?_) fun _ => ?_) | (show gE; first | refine gc_tE ?_ | refine gc_fE ?_ | refine gc_E (fun _ => ?_) fun _ => ?_) | (show gN; first | refine gc_tN ?_ | refine gc_fN ?_ | refine gc_N (fun _ => ?_) fun _ => ?_) | refine gc_tB ?_ | refine gc_fB ?_ | refine gc_tS ?_ | refine gc_fS ?_ | refine gc_B (fun _ => ?_) fun _ => ?_) | (show zR; first | (show zs; refine r_seq ?_) | (show zg; refine R_reg rfl ?_) | (show zd; refine y_cnd ?_) | refine r_ret ?_ | refine r_nop ?_ | refine r_blk ?_ | refine r_exit ?_ | fail) | refine k_seq_nrm ?_ | refine k_seq_ret ?_ | refine k_seq_exit ?_ | refine k_blk_nrm ?_ | refine k_blk_ret ?_ | refine k_blk_hit ?_ | refine k_blk_miss (by decide) ?_ | refine k_lp_ret ?_ | refine k_lp_exit ?_ | (show zk; refine y_fin ?_) | (show zj; refine is_ev ?_) | fail)
    refine y_lpA fun H2 hH2 => ?_
    exact ih (_, v1) (sto_round hs st (Nat.le_refl 0) hH2)
  · rintro ⟨G, v⟩ hs
    simp only at hs
    obtain ⟨H1, v1, e1, s1, f1, _⟩ := (take_any (i := (k : Int)) hs (Nat.le_refl 0) (fun _ _ => Nat.zero_le _) (by rw [mkI_len]; omega)).so
    have ht : takeB (mkI n) k = true := by simp [takeB, mkI_len]; omega
    have hx : takeX (mkI n) k = ⟨0, 1, (k : Int) + 1, []⟩ := by rw [takeX_get (by rw [mkI_len]; exact hk1)]; simp [mkI]
    have hl : takeL (mkI n) k = (mkI n).eraseIdx k := by rw [takeL, if_pos (by rw [mkI_len]; omega)]; simp
    rw [ht, if_pos rfl, hx] at e1
    rw [hl] at s1
    have hln : ((mkI n).eraseIdx k).length = n - 1 := by rw [List.length_eraseIdx, mkI_len, if_pos hk1]
    have hget : ∀ i, i < n - 1 → ((mkI n).eraseIdx k)[i]? = some ⟨0, 1, (if k ≤ i then (i : Int) + 2 else i + 1), []⟩ := fun i hi => mkI_get hk1 hi
    have hbd : ∀ x ∈ (mkI n).eraseIdx k, x.body.length ≤ 100 := fun x hx => mkI_body x (List.mem_of_mem_eraseIdx hx)
    generalize (mkI n).eraseIdx k = es at *
    obtain ⟨w, H2, e2, o2, f2⟩ := (all_any (s1.fr (G := H1 ++ [Xc ⟨0, 1, (k : Int) + 1, []⟩]) fr_app (F := []) (by simp) (by simp)) (Nat.le_refl 0) hbd (by omega)).so
    have s2 : StoreAt H2 0 n es v1 := (s1.fr fr_app (F := []) (by simp) (by simp)).fr f2 (by simp) (by simp)
    obtain ⟨H3, v3, e3, s3, f3, _⟩ := (take_any (i := (n : Int) - 1) s2 (Nat.le_refl 0) (fun _ _ => Nat.zero_le _) (by omega)).so
    have ht3 : takeB es ((n : Int) - 1) = false := by simp [takeB]; omega
    rw [ht3, if_neg (by simp)] at e3
    have hw1 : IntKind.i64.wrap ((k : Int) + 1) = (k : Int) + 1 := IntWalk.i64_in _ (by omega)
    have hw2 : IntKind.i64.wrap ((n : Int) - 1) = (n : Int) - 1 := IntWalk.i64_in _ (by omega)
    have hx9 : H2[H1.length]? = some (Xc ⟨0, 1, (k : Int) + 1, []⟩) := f2.get (by rw [List.getElem?_append_right (Nat.le_refl _)]; simp) (by simp)
    have hk0 : k ≤ n := by omega
    refine upd_to (by dsimp only [upd, lk, Nat.reduceBEq, cond_true, cond_false, Option.getD_some, Option.getD_none]; first | done | exact rfl) ?_; refine r_loop ?_
    unfold l_law21_StoreMiddle_1
    rcases o2 with ⟨rfl, rfl⟩ | ⟨q, _, rfl, hq, _⟩
    · have hn0 : 0 = (n : Int) - 1 := by simp at hln; omega
      repeat' (first | (show zz; first | (show zo; refine y_op ?_) | (show zf; first | refine y_gF ?_ | refine y_sk ?_) | (show zm; refine y_mv ?_) | (show zr; refine y_reg ?_) | (show zc; refine y_call ?_ (ha := by first | exact e1 | exact e2 | assumption)) | (show zn; refine y_calln ?_ (ha := by first | exact e1 | exact e2 | assumption)) | (show zO; refine y_op0 ?_) | (show ze; refine y_ext ?_) | (show zt; first | refine y_gT ?_ | refine y_sk ?_) | (show zp; refine y_pk ?_) | (show zC; refine y_call0 ?_ (ha := by first | exact e1 | exact e2 | assumption)) | (show zv; refine y_cav ?_ (ha := by first | exact e1 | exact e2 | assumption)) | (show zV; refine y_cav0 ?_ (ha := by first | exact e1 | exact e2 | assumption)) | (show zF; first | refine y_hF ?_ | refine y_sk0 ?_) | (show zT; first | refine y_hT ?_ | refine y_sk0 ?_) | fail) | (show gA; first | (show gD; first | refine gc_tD ?_ | refine gc_fD ?_ | refine gc_D (fun _ => ?_) fun _ => ?_) | (show gE; first | refine gc_tE ?_ | refine gc_fE ?_ | refine gc_E (fun _ => ?_) fun _ => ?_) | (show gN; first | refine gc_tN ?_ | refine gc_fN ?_ | refine gc_N (fun _ => ?_) fun _ => ?_) | refine gc_tB ?_ | refine gc_fB ?_ | refine gc_tS ?_ | refine gc_fS ?_ | refine gc_B (fun _ => ?_) fun _ => ?_) | (show zR; first | (show zs; refine r_seq ?_) | (show zg; refine R_reg rfl ?_) | (show zd; refine y_cnd ?_) | refine r_ret ?_ | refine r_nop ?_ | refine r_blk ?_ | refine r_exit ?_ | fail) | refine k_seq_nrm ?_ | refine k_seq_ret ?_ | refine k_seq_exit ?_ | refine k_blk_nrm ?_ | refine k_blk_ret ?_ | refine k_blk_hit ?_ | refine k_blk_miss (by decide) ?_ | refine k_lp_ret ?_ | refine k_lp_exit ?_ | (show zk; refine y_fin ?_) | (show zj; refine is_ev ?_) | fail)
      refine r_loop ?_
      unfold l_law21_StoreMiddle_0
      repeat' (first | (show zz; first | (show zo; refine y_op ?_) | (show zf; first | refine y_gF ?_ | refine y_sk ?_) | (show zm; refine y_mv ?_) | (show zr; refine y_reg ?_) | (show zc; refine y_call ?_ (ha := by first | exact e3 | assumption)) | (show zn; refine y_calln ?_ (ha := by first | exact e3 | assumption)) | (show zO; refine y_op0 ?_) | (show ze; refine y_ext ?_) | (show zt; first | refine y_gT ?_ | refine y_sk ?_) | (show zp; refine y_pk ?_) | (show zC; refine y_call0 ?_ (ha := by first | exact e3 | assumption)) | (show zv; refine y_cav ?_ (ha := by first | exact e3 | assumption)) | (show zV; refine y_cav0 ?_ (ha := by first | exact e3 | assumption)) | (show zF; first | refine y_hF ?_ | refine y_sk0 ?_) | (show zT; first | refine y_hT ?_ | refine y_sk0 ?_) | fail) | (show gA; first | (show gD; first | refine gc_tD ?_ | refine gc_fD ?_ | refine gc_D (fun _ => ?_) fun _ => ?_) | (show gE; first | refine gc_tE ?_ | refine gc_fE ?_ | refine gc_E (fun _ => ?_) fun _ => ?_) | (show gN; first | refine gc_tN ?_ | refine gc_fN ?_ | refine gc_N (fun _ => ?_) fun _ => ?_) | refine gc_tB ?_ | refine gc_fB ?_ | refine gc_tS ?_ | refine gc_fS ?_ | refine gc_B (fun _ => ?_) fun _ => ?_) | (show zR; first | (show zs; refine r_seq ?_) | (show zg; refine R_reg rfl ?_) | (show zd; refine y_cnd ?_) | refine r_ret ?_ | refine r_nop ?_ | refine r_blk ?_ | refine r_exit ?_ | fail) | refine k_seq_nrm ?_ | refine k_seq_ret ?_ | refine k_seq_exit ?_ | refine k_blk_nrm ?_ | refine k_blk_ret ?_ | refine k_blk_hit ?_ | refine k_blk_miss (by decide) ?_ | refine k_lp_ret ?_ | refine k_lp_exit ?_ | (show zk; refine y_fin ?_) | (show zj; refine is_ev ?_) | fail)
      rfl
    · repeat' (first | (show zz; first | (show zo; refine y_op ?_) | (show zf; first | refine y_gF ?_ | refine y_sk ?_) | (show zm; refine y_mv ?_) | (show zr; refine y_reg ?_) | (show zc; refine y_call ?_ (ha := by first | exact e1 | exact e2 | assumption)) | (show zn; refine y_calln ?_ (ha := by first | exact e1 | exact e2 | assumption)) | (show zO; refine y_op0 ?_) | (show ze; refine y_ext ?_) | (show zt; first | refine y_gT ?_ | refine y_sk ?_) | (show zp; refine y_pk ?_) | (show zC; refine y_call0 ?_ (ha := by first | exact e1 | exact e2 | assumption)) | (show zv; refine y_cav ?_ (ha := by first | exact e1 | exact e2 | assumption)) | (show zV; refine y_cav0 ?_ (ha := by first | exact e1 | exact e2 | assumption)) | (show zF; first | refine y_hF ?_ | refine y_sk0 ?_) | (show zT; first | refine y_hT ?_ | refine y_sk0 ?_) | fail) | (show gA; first | (show gD; first | refine gc_tD ?_ | refine gc_fD ?_ | refine gc_D (fun _ => ?_) fun _ => ?_) | (show gE; first | refine gc_tE ?_ | refine gc_fE ?_ | refine gc_E (fun _ => ?_) fun _ => ?_) | (show gN; first | refine gc_tN ?_ | refine gc_fN ?_ | refine gc_N (fun _ => ?_) fun _ => ?_) | refine gc_tB ?_ | refine gc_fB ?_ | refine gc_tS ?_ | refine gc_fS ?_ | refine gc_B (fun _ => ?_) fun _ => ?_) | (show zR; first | (show zs; refine r_seq ?_) | (show zg; refine R_reg rfl ?_) | (show zd; refine y_cnd ?_) | refine r_ret ?_ | refine r_nop ?_ | refine r_blk ?_ | refine r_exit ?_ | fail) | refine k_seq_nrm ?_ | refine k_seq_ret ?_ | refine k_seq_exit ?_ | refine k_blk_nrm ?_ | refine k_blk_ret ?_ | refine k_blk_hit ?_ | refine k_blk_miss (by decide) ?_ | refine k_lp_ret ?_ | refine k_lp_exit ?_ | (show zk; refine y_fin ?_) | (show zj; refine is_ev ?_) | fail)
      refine lp_v es.length (fun i (_ : Unit) => [(12, .int .i64 i)]) (fun _ _ => H2) (fun i _ => True) ?_ ?_ () trivial
      · intro i o hi _ ih
        have hx := hget i (by omega)
        have hw3 : IntKind.i64.wrap ((i : Int) + 1) = (i : Int) + 1 := IntWalk.i64_in _ (by omega)
        have hw4 : IntKind.i64.wrap ((i : Int) + 1 + 1) = (i : Int) + 2 := IntWalk.i64_in _ (by omega)
        refine upd_to (by dsimp only [upd, lk, Nat.reduceBEq, cond_true, cond_false, Option.getD_some, Option.getD_none]; first | done | exact rfl) ?_; refine r_loop ?_
        unfold l_law21_StoreMiddle_0
        by_cases hki : k ≤ i
        · rw [if_pos hki] at hx
          repeat' (first | (show zz; first | (show zo; refine y_op ?_) | (show zf; first | refine y_gF ?_ | refine y_sk ?_) | (show zm; refine y_mv ?_) | (show zr; refine y_reg ?_) | (show zc; refine y_call ?_) | (show zn; refine y_calln ?_) | (show zO; refine y_op0 ?_) | (show ze; refine y_ext ?_) | (show zt; first | refine y_gT ?_ | refine y_sk ?_) | (show zp; refine y_pk ?_) | (show zC; refine y_call0 ?_) | (show zv; refine y_cav ?_) | (show zV; refine y_cav0 ?_) | (show zF; first | refine y_hF ?_ | refine y_sk0 ?_) | (show zT; first | refine y_hT ?_ | refine y_sk0 ?_) | fail) | (show gA; first | (show gD; first | refine gc_tD ?_ | refine gc_fD ?_ | refine gc_D (fun _ => ?_) fun _ => ?_) | (show gE; first | refine gc_tE ?_ | refine gc_fE ?_ | refine gc_E (fun _ => ?_) fun _ => ?_) | (show gN; first | refine gc_tN ?_ | refine gc_fN ?_ | refine gc_N (fun _ => ?_) fun _ => ?_) | refine gc_tB ?_ | refine gc_fB ?_ | refine gc_tS ?_ | refine gc_fS ?_ | refine gc_B (fun _ => ?_) fun _ => ?_) | (show zR; first | (show zs; refine r_seq ?_) | (show zg; refine R_reg rfl ?_) | (show zd; refine y_cnd ?_) | refine r_ret ?_ | refine r_nop ?_ | refine r_blk ?_ | refine r_exit ?_ | fail) | refine k_seq_nrm ?_ | refine k_seq_ret ?_ | refine k_seq_exit ?_ | refine k_blk_nrm ?_ | refine k_blk_ret ?_ | refine k_blk_hit ?_ | refine k_blk_miss (by decide) ?_ | refine k_lp_ret ?_ | refine k_lp_exit ?_ | (show zk; refine y_fin ?_) | (show zj; refine is_ev ?_) | fail)
          refine y_lps ?_
          exact ih () trivial
        · rw [if_neg hki] at hx
          repeat' (first | (show zz; first | (show zo; refine y_op ?_) | (show zf; first | refine y_gF ?_ | refine y_sk ?_) | (show zm; refine y_mv ?_) | (show zr; refine y_reg ?_) | (show zc; refine y_call ?_) | (show zn; refine y_calln ?_) | (show zO; refine y_op0 ?_) | (show ze; refine y_ext ?_) | (show zt; first | refine y_gT ?_ | refine y_sk ?_) | (show zp; refine y_pk ?_) | (show zC; refine y_call0 ?_) | (show zv; refine y_cav ?_) | (show zV; refine y_cav0 ?_) | (show zF; first | refine y_hF ?_ | refine y_sk0 ?_) | (show zT; first | refine y_hT ?_ | refine y_sk0 ?_) | fail) | (show gA; first | (show gD; first | refine gc_tD ?_ | refine gc_fD ?_ | refine gc_D (fun _ => ?_) fun _ => ?_) | (show gE; first | refine gc_tE ?_ | refine gc_fE ?_ | refine gc_E (fun _ => ?_) fun _ => ?_) | (show gN; first | refine gc_tN ?_ | refine gc_fN ?_ | refine gc_N (fun _ => ?_) fun _ => ?_) | refine gc_tB ?_ | refine gc_fB ?_ | refine gc_tS ?_ | refine gc_fS ?_ | refine gc_B (fun _ => ?_) fun _ => ?_) | (show zR; first | (show zs; refine r_seq ?_) | (show zg; refine R_reg rfl ?_) | (show zd; refine y_cnd ?_) | refine r_ret ?_ | refine r_nop ?_ | refine r_blk ?_ | refine r_exit ?_ | fail) | refine k_seq_nrm ?_ | refine k_seq_ret ?_ | refine k_seq_exit ?_ | refine k_blk_nrm ?_ | refine k_blk_ret ?_ | refine k_blk_hit ?_ | refine k_blk_miss (by decide) ?_ | refine k_lp_ret ?_ | refine k_lp_exit ?_ | (show zk; refine y_fin ?_) | (show zj; refine is_ev ?_) | fail)
          refine y_lps ?_
          exact ih () trivial
      · intro o _
        refine upd_to (by dsimp only [upd, lk, Nat.reduceBEq, cond_true, cond_false, Option.getD_some, Option.getD_none]; first | done | exact rfl) ?_; refine r_loop ?_
        unfold l_law21_StoreMiddle_0
        repeat' (first | (show zz; first | (show zo; refine y_op ?_) | (show zf; first | refine y_gF ?_ | refine y_sk ?_) | (show zm; refine y_mv ?_) | (show zr; refine y_reg ?_) | (show zc; refine y_call ?_ (ha := by first | exact e3 | assumption)) | (show zn; refine y_calln ?_ (ha := by first | exact e3 | assumption)) | (show zO; refine y_op0 ?_) | (show ze; refine y_ext ?_) | (show zt; first | refine y_gT ?_ | refine y_sk ?_) | (show zp; refine y_pk ?_) | (show zC; refine y_call0 ?_ (ha := by first | exact e3 | assumption)) | (show zv; refine y_cav ?_ (ha := by first | exact e3 | assumption)) | (show zV; refine y_cav0 ?_ (ha := by first | exact e3 | assumption)) | (show zF; first | refine y_hF ?_ | refine y_sk0 ?_) | (show zT; first | refine y_hT ?_ | refine y_sk0 ?_) | fail) | (show gA; first | (show gD; first | refine gc_tD ?_ | refine gc_fD ?_ | refine gc_D (fun _ => ?_) fun _ => ?_) | (show gE; first | refine gc_tE ?_ | refine gc_fE ?_ | refine gc_E (fun _ => ?_) fun _ => ?_) | (show gN; first | refine gc_tN ?_ | refine gc_fN ?_ | refine gc_N (fun _ => ?_) fun _ => ?_) | refine gc_tB ?_ | refine gc_fB ?_ | refine gc_tS ?_ | refine gc_fS ?_ | refine gc_B (fun _ => ?_) fun _ => ?_) | (show zR; first | (show zs; refine r_seq ?_) | (show zg; refine R_reg rfl ?_) | (show zd; refine y_cnd ?_) | refine r_ret ?_ | refine r_nop ?_ | refine r_blk ?_ | refine r_exit ?_ | fail) | refine k_seq_nrm ?_ | refine k_seq_ret ?_ | refine k_seq_exit ?_ | refine k_blk_nrm ?_ | refine k_blk_ret ?_ | refine k_blk_hit ?_ | refine k_blk_miss (by decide) ?_ | refine k_lp_ret ?_ | refine k_lp_exit ?_ | (show zk; refine y_fin ?_) | (show zj; refine is_ev ?_) | fail)
        rfl
end Go.Abs
