/-
  StorePlays: the law's code tells true.
-/
import Derived.Test.YtcfefgeheibadaaSt7
namespace Go.Abs
open Go.Proofs.Ytcfefgeheibadaa
attribute [local irreducible] enL R RR kSeq kBlk kLp kReg kFin kFn apply evs evX edel ekeep eins fillV lay resAll finish trim mayW frz frz1 V.rb V.rbL
/-! The law. -/
structure PlP (room : Int) (t : Heap × V × Nat × List Item) : Prop where
  st : StoreAt t.1 t.2.2.1 room t.2.2.2 t.2.1
  rf : t.1[1]? = some (rsto room t.2.2.2)
  p1 : t.2.2.1 ≠ 1
  f1 : 1 ∉ foot t.2.1
  len : t.2.2.2.length ≤ 64
  bd : ∀ x ∈ t.2.2.2, x.body.length ≤ 100
set_option maxHeartbeats 16000000 in
theorem storePlays {us : List V} (h : TyAs [.int .i64, .sl tyDeed] us) : Call tab none f_law21_StorePlays us [] = some (.bool true, []) := by
  obtain ⟨_, _, rfl, h1, _, _, rfl, h2, rfl⟩ := h
  obtain ⟨r, rfl, _⟩ := ty_int h1
  obtain ⟨l, rfl, hll, _⟩ := ty_sl (fun _ => tv_deed) h2
  clear h1 h2
  ((first | refine ev_is ?_ | skip); refine cl_P (H0 := []) (cf := c_law21_StorePlays) rfl rfl rfl rfl (by (repeat' (first | assumption | exact enL_rb _ _ | exact rb_int | exact rb_bool | exact rb_str | exact rb_nil | refine rb_sl ?_ | refine rb_cons ?_ ?_ | refine rb_set ?_ ?_ | refine rb_agg ?_ | refine rb_app ?_ ?_ | refine rb_ptr ?_ | (simp only [V.rb]; done) | (simp only [V.rb, V.rbL]; done) | exact Nat.lt_of_lt_of_le (Nat.lt_succ_self _) (Nat.le_of_ble_eq_true rfl) | omega)); (first | done | fail)) ?_; unfold c_law21_StorePlays; dsimp only [initEnv, Nat.reduceAdd, Nat.zero_add])
  by_cases hl : (decide ((l.length : Int) ≤ 150) && short l) = true
  · have hl' := hl
    simp only [Bool.and_eq_true, decide_eq_true_eq] at hl'
    have hsh : ∀ d ∈ l, d.x.body.length ≤ 60 := by
      have := hl'.2
      simp only [short, List.all_eq_true, decide_eq_true_eq] at this
      exact this
    have hsm : ∀ H, Call tab (some 0) f_law21_small [.sl none l.length (enL l), .int .i64 150] H = some (.bool true, H) := fun H => by rw [small_s hll, hl]
    repeat' (first | (show zz; first | (show zo; refine y_op ?_) | (show zf; first | refine y_gF ?_ | refine y_sk ?_) | (show zm; refine y_mv ?_) | (show zr; refine y_reg ?_) | (show zc; refine y_call ?_ (ha := by first | exact alive21_s | exact hsm _ | exact new_s | exact rnew_s | assumption)) | (show zn; refine y_calln ?_ (ha := by first | exact alive21_s | exact hsm _ | exact new_s | exact rnew_s | assumption)) | (show zO; refine y_op0 ?_) | (show ze; refine y_ext ?_) | (show zt; first | refine y_gT ?_ | refine y_sk ?_) | (show zp; refine y_pk ?_) | (show zC; refine y_call0 ?_ (ha := by first | exact alive21_s | exact hsm _ | exact new_s | exact rnew_s | assumption)) | (show zv; refine y_cav ?_ (ha := by first | exact alive21_s | exact hsm _ | exact new_s | exact rnew_s | assumption)) | (show zV; refine y_cav0 ?_ (ha := by first | exact alive21_s | exact hsm _ | exact new_s | exact rnew_s | assumption)) | (show zF; first | refine y_hF ?_ | refine y_sk0 ?_) | (show zT; first | refine y_hT ?_ | refine y_sk0 ?_) | fail) | (show gA; first | (show gD; first | refine gc_tD ?_ | refine gc_fD ?_ | refine gc_D (fun _ => ?_) fun _ => ?_) | (show gE; first | refine gc_tE ?_ | refine gc_fE ?_ | refine gc_E (fun _ => ?_) fun _ => ?_) | (show gN; first | refine gc_tN ?_ | refine gc_fN ?_ | refine gc_N (fun _ => ?_) fun _ => ?_) | refine gc_tB ?_ | refine gc_fB ?_ | refine gc_tS ?_ | refine gc_fS ?_ | refine gc_B (fun _ => ?_) fun _ => ?_) | (show zR; first | (show zs; refine r_seq ?_) | (show zg; refine R_reg rfl ?_) | (show zd; refine y_cnd ?_) | refine r_ret ?_ | refine r_nop ?_ | refine r_blk ?_ | refine r_exit ?_ | fail) | refine k_seq_nrm ?_ | refine k_seq_ret ?_ | refine k_seq_exit ?_ | refine k_blk_nrm ?_ | refine k_blk_ret ?_ | refine k_blk_hit ?_ | refine k_blk_miss (by decide) ?_ | refine k_lp_ret ?_ | refine k_lp_exit ?_ | (show zk; refine y_fin ?_) | (show zj; refine is_ev ?_) | fail)
    have hr : 0 ≤ min (max r 0) 64 ∧ min (max r 0) 64 ≤ 64 := by omega
    generalize min (max r 0) 64 = room at hr ⊢
    have s0 : StoreAt [[.int .i64 room, .nls], rsto room []] 0 room [] .nls := ⟨rfl, .inl ⟨rfl, rfl⟩, by simp [foot]⟩
    show Ev (R tab (some 0) (.loop l_law21_StorePlays_0) [(1, .sl none l.length (enL l)), (5, .ptr 0 0), (6, .ptr 1 0), (7, .int .i64 0)] [[.int .i64 room, .nls], rsto room []] _) _
    refine lp_v l.length (fun i (t : Heap × V × Nat × List Item) => [(5, .ptr t.2.2.1 0), (7, .int .i64 i)]) (fun _ t => t.1) (fun _ t => PlP room t) ?_ ?_ (_, .nls, 0, []) ⟨s0, rfl, (show (0 : Nat) ≠ 1 by decide), by simp [foot], by simp, by simp⟩
    · rintro i ⟨G, v, p, L⟩ hi hP ih
      obtain ⟨st, rf, p1, f1, len, bd⟩ := hP
      simp only at st rf p1 f1 len bd
      obtain ⟨d, hd⟩ := getq hi
      have hdb := hsh d (List.mem_of_getElem? hd)
      have hdx := putL_len (l := L) (x := d.x) hr.2 len
      have hdy := putL_bd (room := room) (l := L) (x := d.x) hdb bd
      refine upd_to (by dsimp only [upd, lk, Nat.reduceBEq, cond_true, cond_false, Option.getD_some, Option.getD_none]; first | done | exact rfl) ?_; refine r_loop ?_
      unfold l_law21_StorePlays_0
      by_cases c1 : d.act ≤ 4
      · obtain ⟨H1, v1, e1, s1, r1, t1⟩ := (put_any (x := d.x) st (Nat.zero_le _) (fun _ _ => Nat.zero_le _) (by omega)).so
        have rf1 := r1.get rf (by simpa [foot] using ⟨fun e => p1 e.symm, f1⟩)
        have e2 := rput_s (x := d.x) (lm := 0) rf1 (Nat.zero_le _) (by omega) (by omega)
        have g1 : 1 ∉ foot v1 := fun k => (t1 1 k).elim f1 fun k => by have := (List.getElem?_eq_some_iff.1 rf).1; omega
        have hp2 := p1
        have g2 := g1
        generalize putL room L d.x = L2 at *
        have s2 : StoreAt (H1.set 1 (rsto room L2)) p room L2 v1 := s1.fr (F := [1]) ⟨by simp, fun i _ hn => by rw [List.getElem?_set_ne (by simp at hn; omega)]⟩ (by simpa using p1) (fun q hq hn => g1 (by simp at hn; subst hn; exact hq))
        have rf2 : (H1.set 1 (rsto room L2))[1]? = some (rsto room L2) := List.getElem?_set_self (List.getElem?_eq_some_iff.1 rf1).1
        generalize H1.set 1 (rsto room L2) = H2 at *
        obtain ⟨w, H3, e3, o3, f3⟩ := (all_any s2 (Nat.zero_le _) hdy (by omega)).so
        have e3p := fr_pre f3
        have s3 := s2.fr f3 (by simp) (by simp)
        have rf3 := f3.get rf2 (by simp)
        have e4 := left_any (s := some 0) s3 hr (by omega)
        have e5 : Call tab (some 0) f_ref21_SameItems [w, .sl none L2.length (enL L2)] H3 = some (.bool true, H3) := sameItems_own o3 (by omega)
        have q5 : IntKind.i64.wrap (room - (L2.length : Int)) = room - L2.length := IntWalk.i64_in _ (by omega)
        have rf3' := rf3
        unfold rsto at rf3'
        have hw : w = .nls ∨ ∃ q, w = .ar 4 q 0 L2.length L2.length := by
          rcases o3 with ⟨rfl, _⟩ | ⟨q, _, rfl, _⟩
          · exact .inl rfl
          · exact .inr ⟨q, rfl⟩
        clear o3
        rcases hw with rfl | ⟨q, rfl⟩
        all_goals
          repeat' (first | (show zz; first | (show zo; refine y_op ?_) | (show zf; first | refine y_gF ?_ | refine y_sk ?_) | (show zm; refine y_mv ?_) | (show zr; refine y_reg ?_) | (show zc; refine y_call ?_ (ha := by first | exact e1 | exact num_s | exact e2 | exact e3 | exact e5 | exact e4 | assumption)) | (show zn; refine y_calln ?_ (ha := by first | exact e1 | exact num_s | exact e2 | exact e3 | exact e5 | exact e4 | assumption)) | (show zO; refine y_op0 ?_) | (show ze; refine y_ext ?_) | (show zt; first | refine y_gT ?_ | refine y_sk ?_) | (show zp; refine y_pk ?_) | (show zC; refine y_call0 ?_ (ha := by first | exact e1 | exact num_s | exact e2 | exact e3 | exact e5 | exact e4 | assumption)) | (show zv; refine y_cav ?_ (ha := by first | exact e1 | exact num_s | exact e2 | exact e3 | exact e5 | exact e4 | assumption)) | (show zV; refine y_cav0 ?_ (ha := by first | exact e1 | exact num_s | exact e2 | exact e3 | exact e5 | exact e4 | assumption)) | (show zF; first | refine y_hF ?_ | refine y_sk0 ?_) | (show zT; first | refine y_hT ?_ | refine y_sk0 ?_) | fail) | (show gA; first | (show gD; first | refine gc_tD ?_ | refine gc_fD ?_ | refine gc_D (fun _ => ?_) fun _ => ?_) | (show gE; first | refine gc_tE ?_ | refine gc_fE ?_ | refine gc_E (fun _ => ?_) fun _ => ?_) | (show gN; first | refine gc_tN ?_ | refine gc_fN ?_ | refine gc_N (fun _ => ?_) fun _ => ?_) | refine gc_tB ?_ | refine gc_fB ?_ | refine gc_tS ?_ | refine gc_fS ?_ | refine gc_B (fun _ => ?_) fun _ => ?_) | (show zR; first | (show zs; refine r_seq ?_) | (show zg; refine R_reg rfl ?_) | (show zd; refine y_cnd ?_) | refine r_ret ?_ | refine r_nop ?_ | refine r_blk ?_ | refine r_exit ?_ | fail) | refine k_seq_nrm ?_ | refine k_seq_ret ?_ | refine k_seq_exit ?_ | refine k_blk_nrm ?_ | refine k_blk_ret ?_ | refine k_blk_hit ?_ | refine k_blk_miss (by decide) ?_ | refine k_lp_ret ?_ | refine k_lp_exit ?_ | (show zk; refine y_fin ?_) | (show zj; refine is_ev ?_) | fail)
          refine y_lpA fun H4 hH4 => ?_
          exact ih (H4, v1, p, L2) ⟨sto_round st s3 (Nat.zero_le _) hH4, get_round rf rf3 hH4, hp2, g2, hdx, hdy⟩
      · have hdt : (takeL L d.n).length ≤ 64 := by unfold takeL; split; (rw [List.length_eraseIdx]; split <;> omega); omega
        have hdu : ∀ x ∈ takeL L d.n, x.body.length ≤ 100 := by
          unfold takeL; split
          · exact fun x hx => bd x (List.mem_of_mem_eraseIdx hx)
          · exact bd
        clear hdx hdy
        by_cases c2 : d.act ≤ 7
        · obtain ⟨H1, v1, e1, s1, r1, t1⟩ := (take_any (i := d.n) st (Nat.zero_le _) (fun _ _ => Nat.zero_le _) (by omega)).so
          have rf1 := r1.get rf (by simpa [foot] using ⟨fun e => p1 e.symm, f1⟩)
          have g1 : 1 ∉ foot v1 := fun k => (t1 1 k).elim f1 fun k => by have := (List.getElem?_eq_some_iff.1 rf).1; omega
          have hp2 := p1
          have g2 := g1
          have e2 := rtake_s (i := d.n) (lm := 0) (H := H1 ++ [Xc (if takeB L d.n = true then takeX L d.n else ⟨0, 0, 0, []⟩)]) (p := 1) (room := room) (l := L) (by rw [List.getElem?_append_left (List.getElem?_eq_some_iff.1 rf1).1]; exact rf1) (Nat.zero_le _) (by omega)
          unfold rtakeV at e2
          generalize (if takeB L d.n = true then takeX L d.n else (⟨0, 0, 0, []⟩ : Item)) = X at *
          have hdx := hdt
          have hdy := hdu
          generalize takeL L d.n = L2 at *
          have l1 := (List.getElem?_eq_some_iff.1 rf1).1
          have s2 : StoreAt ((H1 ++ [Xc X]).set 1 (rsto room L2) ++ [Xc X]) p room L2 v1 := (s1.app.fr (fr_set1 (i := 1) (c := rsto room L2)) (by simpa using p1) (fun q hq hn => g1 (by simp at hn; subst hn; exact hq))).app
          have rf2 : ((H1 ++ [Xc X]).set 1 (rsto room L2) ++ [Xc X])[1]? = some (rsto room L2) := by
            rw [List.getElem?_append_left (by simp; omega), List.getElem?_set_self (by simp; omega)]
          have x1 : ((H1 ++ [Xc X]).set 1 (rsto room L2) ++ [Xc X])[H1.length]? = some (Xc X) := by
            rw [List.getElem?_append_left (by simp only [List.length_set, List.length_append, List.length_singleton]; omega), List.getElem?_set_ne (by omega), List.getElem?_append_right (Nat.le_refl _), Nat.sub_self]; rfl
          have e6 : sameI X X = true := sameI_refl X
          obtain ⟨w, H3, e3, o3, f3⟩ := (all_any s2 (Nat.zero_le _) hdy (by omega)).so
          have e3p := fr_pre f3
          have s3 := s2.fr f3 (by simp) (by simp)
          have rf3 := f3.get rf2 (by simp)
          have e4 := left_any (s := some 0) s3 hr (by omega)
          have e5 : Call tab (some 0) f_ref21_SameItems [w, .sl none L2.length (enL L2)] H3 = some (.bool true, H3) := sameItems_own o3 (by omega)
          have q5 : IntKind.i64.wrap (room - (L2.length : Int)) = room - L2.length := IntWalk.i64_in _ (by omega)
          have rf3' := rf3
          unfold rsto at rf3'
          have hw : w = .nls ∨ ∃ q, w = .ar 4 q 0 L2.length L2.length := by
            rcases o3 with ⟨rfl, _⟩ | ⟨q, _, rfl, _⟩
            · exact .inl rfl
            · exact .inr ⟨q, rfl⟩
          clear o3
          rcases hw with rfl | ⟨q, rfl⟩
          all_goals
            repeat' (first | (show zz; first | (show zo; refine y_op ?_) | (show zf; first | refine y_gF ?_ | refine y_sk ?_) | (show zm; refine y_mv ?_) | (show zr; refine y_reg ?_) | (show zc; refine y_call ?_ (ha := by first | exact e1 | exact e2 | exact (by rw [sameItem_s, e6]) | exact e3 | exact e5 | exact e4 | assumption)) | (show zn; refine y_calln ?_ (ha := by first | exact e1 | exact e2 | exact (by rw [sameItem_s, e6]) | exact e3 | exact e5 | exact e4 | assumption)) | (show zO; refine y_op0 ?_) | (show ze; refine y_ext ?_) | (show zt; first | refine y_gT ?_ | refine y_sk ?_) | (show zp; refine y_pk ?_) | (show zC; refine y_call0 ?_ (ha := by first | exact e1 | exact e2 | exact (by rw [sameItem_s, e6]) | exact e3 | exact e5 | exact e4 | assumption)) | (show zv; refine y_cav ?_ (ha := by first | exact e1 | exact e2 | exact (by rw [sameItem_s, e6]) | exact e3 | exact e5 | exact e4 | assumption)) | (show zV; refine y_cav0 ?_ (ha := by first | exact e1 | exact e2 | exact (by rw [sameItem_s, e6]) | exact e3 | exact e5 | exact e4 | assumption)) | (show zF; first | refine y_hF ?_ | refine y_sk0 ?_) | (show zT; first | refine y_hT ?_ | refine y_sk0 ?_) | fail) | (show gA; first | (show gD; first | refine gc_tD ?_ | refine gc_fD ?_ | refine gc_D (fun _ => ?_) fun _ => ?_) | (show gE; first | refine gc_tE ?_ | refine gc_fE ?_ | refine gc_E (fun _ => ?_) fun _ => ?_) | (show gN; first | refine gc_tN ?_ | refine gc_fN ?_ | refine gc_N (fun _ => ?_) fun _ => ?_) | refine gc_tB ?_ | refine gc_fB ?_ | refine gc_tS ?_ | refine gc_fS ?_ | refine gc_B (fun _ => ?_) fun _ => ?_) | (show zR; first | (show zs; refine r_seq ?_) | (show zg; refine R_reg rfl ?_) | (show zd; refine y_cnd ?_) | refine r_ret ?_ | refine r_nop ?_ | refine r_blk ?_ | refine r_exit ?_ | fail) | refine k_seq_nrm ?_ | refine k_seq_ret ?_ | refine k_seq_exit ?_ | refine k_blk_nrm ?_ | refine k_blk_ret ?_ | refine k_blk_hit ?_ | refine k_blk_miss (by decide) ?_ | refine k_lp_ret ?_ | refine k_lp_exit ?_ | (show zk; refine y_fin ?_) | (show zj; refine is_ev ?_) | fail)
            refine y_lpA fun H4 hH4 => ?_
            exact ih (H4, v1, p, L2) ⟨sto_round st s3 (Nat.zero_le _) hH4, get_round rf rf3 hH4, hp2, g2, hdx, hdy⟩
        · clear hdt hdu
          by_cases c3 : d.act = 8
          · obtain ⟨H1, e1, s1, r1⟩ := (clear_any st (Nat.zero_le _)).so
            have rf1 := r1.get rf (by simpa using fun e => p1 e.symm)
            have hpx := fr_preX r1
            have hp2 := p1
            have g2 : 1 ∉ foot V.nls := by simp [foot]
            have rf1' := rf1
            unfold rsto at rf1'
            have l1 := (List.getElem?_eq_some_iff.1 rf1).1
            obtain ⟨L2, hL2⟩ : ∃ L2 : List Item, L2 = [] := ⟨_, rfl⟩
            have hdx : L2.length ≤ 64 := by simp [hL2]
            have hdy : ∀ x ∈ L2, x.body.length ≤ 100 := by simp [hL2]
            have s2 : StoreAt (H1.set 1 [.int .i64 room, .sl (some 4) 0 []]) p room L2 .nls := by rw [hL2]; exact s1.fr fr_set1 (by simpa using p1) (by simp [foot])
            have rf2 : (H1.set 1 [.int .i64 room, .sl (some 4) 0 []])[1]? = some (rsto room L2) := by rw [hL2, rsto, enL_nil]; exact List.getElem?_set_self l1
            obtain ⟨w, H3, e3, o3, f3⟩ := (all_any s2 (Nat.zero_le _) hdy (by omega)).so
            have e3p := fr_pre f3
            have s3 := s2.fr f3 (by simp) (by simp)
            have rf3 := f3.get rf2 (by simp)
            have e4 := left_any (s := some 0) s3 hr (by omega)
            have e5 : Call tab (some 0) f_ref21_SameItems [w, .sl none L2.length (enL L2)] H3 = some (.bool true, H3) := sameItems_own o3 (by omega)
            have q5 : IntKind.i64.wrap (room - (L2.length : Int)) = room - L2.length := IntWalk.i64_in _ (by omega)
            have rf3' := rf3
            unfold rsto at rf3'
            have hw : w = .nls ∨ ∃ q, w = .ar 4 q 0 L2.length L2.length := by
              rcases o3 with ⟨rfl, _⟩ | ⟨q, _, rfl, _⟩
              · exact .inl rfl
              · exact .inr ⟨q, rfl⟩
            clear o3
            rcases hw with rfl | ⟨q, rfl⟩
            all_goals
              repeat' (first | (show zz; first | (show zo; refine y_op ?_) | (show zf; first | refine y_gF ?_ | refine y_sk ?_) | (show zm; refine y_mv ?_) | (show zr; refine y_reg ?_) | (show zc; refine y_call ?_ (ha := by first | exact e1 | exact e3 | exact e5 | exact e4 | assumption)) | (show zn; refine y_calln ?_ (ha := by first | exact e1 | exact e3 | exact e5 | exact e4 | assumption)) | (show zO; refine y_op0 ?_) | (show ze; refine y_ext ?_) | (show zt; first | refine y_gT ?_ | refine y_sk ?_) | (show zp; refine y_pk ?_) | (show zC; refine y_call0 ?_ (ha := by first | exact e1 | exact e3 | exact e5 | exact e4 | assumption)) | (show zv; refine y_cav ?_ (ha := by first | exact e1 | exact e3 | exact e5 | exact e4 | assumption)) | (show zV; refine y_cav0 ?_ (ha := by first | exact e1 | exact e3 | exact e5 | exact e4 | assumption)) | (show zF; first | refine y_hF ?_ | refine y_sk0 ?_) | (show zT; first | refine y_hT ?_ | refine y_sk0 ?_) | fail) | (show gA; first | (show gD; first | refine gc_tD ?_ | refine gc_fD ?_ | refine gc_D (fun _ => ?_) fun _ => ?_) | (show gE; first | refine gc_tE ?_ | refine gc_fE ?_ | refine gc_E (fun _ => ?_) fun _ => ?_) | (show gN; first | refine gc_tN ?_ | refine gc_fN ?_ | refine gc_N (fun _ => ?_) fun _ => ?_) | refine gc_tB ?_ | refine gc_fB ?_ | refine gc_tS ?_ | refine gc_fS ?_ | refine gc_B (fun _ => ?_) fun _ => ?_) | (show zR; first | (show zs; refine r_seq ?_) | (show zg; refine R_reg rfl ?_) | (show zd; refine y_cnd ?_) | refine r_ret ?_ | refine r_nop ?_ | refine r_blk ?_ | refine r_exit ?_ | fail) | refine k_seq_nrm ?_ | refine k_seq_ret ?_ | refine k_seq_exit ?_ | refine k_blk_nrm ?_ | refine k_blk_ret ?_ | refine k_blk_hit ?_ | refine k_blk_miss (by decide) ?_ | refine k_lp_ret ?_ | refine k_lp_exit ?_ | (show zk; refine y_fin ?_) | (show zj; refine is_ev ?_) | fail)
              refine y_lpA fun H4 hH4 => ?_
              exact ih (H4, .nls, p, L2) ⟨sto_round st s3 (Nat.zero_le _) hH4, get_round rf rf3 hH4, hp2, g2, hdx, hdy⟩
          · obtain ⟨H1, p2, v2, e1, s1, hp, hv, r1⟩ := (fork_any st (Nat.zero_le _) bd (by omega)).so
            have lt := st.lt
            have l1 := (List.getElem?_eq_some_iff.1 rf).1
            have st1 := st.fr r1 (by simp) (by simp)
            have rf1 := r1.get rf (by simp)
            obtain ⟨H2, e2, _, r2⟩ := (clear_any st1 (Nat.zero_le _)).so
            have s2 := s1.fr r2 (by simp; omega) (fun q hq hn => by have := hv q hq; simp at hn; omega)
            have rf2 := r2.get rf1 (by simpa using fun e => p1 e.symm)
            have hp2 : p2 ≠ 1 := by omega
            have g2 : 1 ∉ foot v2 := fun k => by have := hv 1 k; omega
            have hdx := len
            have hdy := bd
            obtain ⟨L2, hL2⟩ : ∃ L2 : List Item, L2 = L := ⟨_, rfl⟩
            rw [← hL2] at s2 rf2 hdx hdy
            obtain ⟨w, H3, e3, o3, f3⟩ := (all_any s2 (Nat.zero_le _) hdy (by omega)).so
            have e3p := fr_pre f3
            have s3 := s2.fr f3 (by simp) (by simp)
            have rf3 := f3.get rf2 (by simp)
            have e4 := left_any (s := some 0) s3 hr (by omega)
            have e5 : Call tab (some 0) f_ref21_SameItems [w, .sl none L2.length (enL L2)] H3 = some (.bool true, H3) := sameItems_own o3 (by omega)
            have q5 : IntKind.i64.wrap (room - (L2.length : Int)) = room - L2.length := IntWalk.i64_in _ (by omega)
            have rf3' := rf3
            unfold rsto at rf3'
            have hw : w = .nls ∨ ∃ q, w = .ar 4 q 0 L2.length L2.length := by
              rcases o3 with ⟨rfl, _⟩ | ⟨q, _, rfl, _⟩
              · exact .inl rfl
              · exact .inr ⟨q, rfl⟩
            clear o3
            rcases hw with rfl | ⟨q, rfl⟩
            all_goals
              repeat' (first | (show zz; first | (show zo; refine y_op ?_) | (show zf; first | refine y_gF ?_ | refine y_sk ?_) | (show zm; refine y_mv ?_) | (show zr; refine y_reg ?_) | (show zc; refine y_call ?_ (ha := by first | exact e1 | exact e2 | exact e3 | exact e5 | exact e4 | assumption)) | (show zn; refine y_calln ?_ (ha := by first | exact e1 | exact e2 | exact e3 | exact e5 | exact e4 | assumption)) | (show zO; refine y_op0 ?_) | (show ze; refine y_ext ?_) | (show zt; first | refine y_gT ?_ | refine y_sk ?_) | (show zp; refine y_pk ?_) | (show zC; refine y_call0 ?_ (ha := by first | exact e1 | exact e2 | exact e3 | exact e5 | exact e4 | assumption)) | (show zv; refine y_cav ?_ (ha := by first | exact e1 | exact e2 | exact e3 | exact e5 | exact e4 | assumption)) | (show zV; refine y_cav0 ?_ (ha := by first | exact e1 | exact e2 | exact e3 | exact e5 | exact e4 | assumption)) | (show zF; first | refine y_hF ?_ | refine y_sk0 ?_) | (show zT; first | refine y_hT ?_ | refine y_sk0 ?_) | fail) | (show gA; first | (show gD; first | refine gc_tD ?_ | refine gc_fD ?_ | refine gc_D (fun _ => ?_) fun _ => ?_) | (show gE; first | refine gc_tE ?_ | refine gc_fE ?_ | refine gc_E (fun _ => ?_) fun _ => ?_) | (show gN; first | refine gc_tN ?_ | refine gc_fN ?_ | refine gc_N (fun _ => ?_) fun _ => ?_) | refine gc_tB ?_ | refine gc_fB ?_ | refine gc_tS ?_ | refine gc_fS ?_ | refine gc_B (fun _ => ?_) fun _ => ?_) | (show zR; first | (show zs; refine r_seq ?_) | (show zg; refine R_reg rfl ?_) | (show zd; refine y_cnd ?_) | refine r_ret ?_ | refine r_nop ?_ | refine r_blk ?_ | refine r_exit ?_ | fail) | refine k_seq_nrm ?_ | refine k_seq_ret ?_ | refine k_seq_exit ?_ | refine k_blk_nrm ?_ | refine k_blk_ret ?_ | refine k_blk_hit ?_ | refine k_blk_miss (by decide) ?_ | refine k_lp_ret ?_ | refine k_lp_exit ?_ | (show zk; refine y_fin ?_) | (show zj; refine is_ev ?_) | fail)
              refine y_lpA fun H4 hH4 => ?_
              rcases hH4 with rfl | ⟨_, _, k, _⟩
              · exact ih (_, v2, p2, L2) ⟨s3, rf3, hp2, g2, hdx, hdy⟩
              · exfalso
                simp only [List.all_cons, Bool.and_eq_true, V.rb, decide_eq_true_eq] at k
                omega

    · rintro ⟨G, v, p, L⟩ hP
      refine upd_to (by dsimp only [upd, lk, Nat.reduceBEq, cond_true, cond_false, Option.getD_some, Option.getD_none]; first | done | exact rfl) ?_; refine r_loop ?_
      unfold l_law21_StorePlays_0
      repeat' (first | (show zz; first | (show zo; refine y_op ?_) | (show zf; first | refine y_gF ?_ | refine y_sk ?_) | (show zm; refine y_mv ?_) | (show zr; refine y_reg ?_) | (show zc; refine y_call ?_) | (show zn; refine y_calln ?_) | (show zO; refine y_op0 ?_) | (show ze; refine y_ext ?_) | (show zt; first | refine y_gT ?_ | refine y_sk ?_) | (show zp; refine y_pk ?_) | (show zC; refine y_call0 ?_) | (show zv; refine y_cav ?_) | (show zV; refine y_cav0 ?_) | (show zF; first | refine y_hF ?_ | refine y_sk0 ?_) | (show zT; first | refine y_hT ?_ | refine y_sk0 ?_) | fail) | (show gA; first | (show gD; first | refine gc_tD ?_ | refine gc_fD ?_ | refine gc_D (fun _ => ?_) fun _ => ?_) | (show gE; first | refine gc_tE ?_ | refine gc_fE ?_ | refine gc_E (fun _ => ?_) fun _ => ?_) | (show gN; first | refine gc_tN ?_ | refine gc_fN ?_ | refine gc_N (fun _ => ?_) fun _ => ?_) | refine gc_tB ?_ | refine gc_fB ?_ | refine gc_tS ?_ | refine gc_fS ?_ | refine gc_B (fun _ => ?_) fun _ => ?_) | (show zR; first | (show zs; refine r_seq ?_) | (show zg; refine R_reg rfl ?_) | (show zd; refine y_cnd ?_) | refine r_ret ?_ | refine r_nop ?_ | refine r_blk ?_ | refine r_exit ?_ | fail) | refine k_seq_nrm ?_ | refine k_seq_ret ?_ | refine k_seq_exit ?_ | refine k_blk_nrm ?_ | refine k_blk_ret ?_ | refine k_blk_hit ?_ | refine k_blk_miss (by decide) ?_ | refine k_lp_ret ?_ | refine k_lp_exit ?_ | (show zk; refine y_fin ?_) | (show zj; refine is_ev ?_) | fail)
      rfl
  · have hl : (decide ((l.length : Int) ≤ 150) && short l) = false := by simpa using hl
    have hsm : ∀ H, Call tab (some 0) f_law21_small [.sl none l.length (enL l), .int .i64 150] H = some (.bool false, H) := fun H => by rw [small_s hll, hl]
    repeat' (first | (show zz; first | (show zo; refine y_op ?_) | (show zf; first | refine y_gF ?_ | refine y_sk ?_) | (show zm; refine y_mv ?_) | (show zr; refine y_reg ?_) | (show zc; refine y_call ?_ (ha := by first | exact alive21_s | exact hsm _ | assumption)) | (show zn; refine y_calln ?_ (ha := by first | exact alive21_s | exact hsm _ | assumption)) | (show zO; refine y_op0 ?_) | (show ze; refine y_ext ?_) | (show zt; first | refine y_gT ?_ | refine y_sk ?_) | (show zp; refine y_pk ?_) | (show zC; refine y_call0 ?_ (ha := by first | exact alive21_s | exact hsm _ | assumption)) | (show zv; refine y_cav ?_ (ha := by first | exact alive21_s | exact hsm _ | assumption)) | (show zV; refine y_cav0 ?_ (ha := by first | exact alive21_s | exact hsm _ | assumption)) | (show zF; first | refine y_hF ?_ | refine y_sk0 ?_) | (show zT; first | refine y_hT ?_ | refine y_sk0 ?_) | fail) | (show gA; first | (show gD; first | refine gc_tD ?_ | refine gc_fD ?_ | refine gc_D (fun _ => ?_) fun _ => ?_) | (show gE; first | refine gc_tE ?_ | refine gc_fE ?_ | refine gc_E (fun _ => ?_) fun _ => ?_) | (show gN; first | refine gc_tN ?_ | refine gc_fN ?_ | refine gc_N (fun _ => ?_) fun _ => ?_) | refine gc_tB ?_ | refine gc_fB ?_ | refine gc_tS ?_ | refine gc_fS ?_ | refine gc_B (fun _ => ?_) fun _ => ?_) | (show zR; first | (show zs; refine r_seq ?_) | (show zg; refine R_reg rfl ?_) | (show zd; refine y_cnd ?_) | refine r_ret ?_ | refine r_nop ?_ | refine r_blk ?_ | refine r_exit ?_ | fail) | refine k_seq_nrm ?_ | refine k_seq_ret ?_ | refine k_seq_exit ?_ | refine k_blk_nrm ?_ | refine k_blk_ret ?_ | refine k_blk_hit ?_ | refine k_blk_miss (by decide) ?_ | refine k_lp_ret ?_ | refine k_lp_exit ?_ | (show zk; refine y_fin ?_) | (show zj; refine is_ev ?_) | fail)
    all_goals rfl
end Go.Abs
