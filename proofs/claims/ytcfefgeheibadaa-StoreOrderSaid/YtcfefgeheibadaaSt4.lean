/-
  Forking a store; the document's own store; comparing.
-/
import Derived.Test.YtcfefgeheibadaaSt3
namespace Go.Abs
open Go.Proofs.Ytcfefgeheibadaa
attribute [local irreducible] enL R RR kSeq kBlk kLp kReg kFin kFn apply evs evX edel ekeep eins fillV lay resAll finish trim mayW frz frz1 V.rb V.rbL
theorem fr_pre {H G : Heap} (h : Fr H G []) : pre H G = true := by
  have e : G = H ++ G.drop H.length := by
    refine List.ext_getElem? fun i => ?_
    by_cases hi : i < H.length
    · rw [List.getElem?_append_left hi]; exact h.same i hi (by simp)
    · rw [List.getElem?_append_right (by omega), List.getElem?_drop]; congr 1; omega
  rw [e]; exact pre_app _ _
theorem own_ga {m : Nat} {H : Heap} {v : V} {l : List Item} (h : Own m H v l) : GA H v l := by
  rcases h with h | ⟨q, _, rfl, h1, h2⟩
  · exact .inl h
  · exact .inr ⟨q, l.length, [], rfl, by rw [List.append_nil]; exact h1, Nat.le_refl _, by simp, List.length_pos_iff.2 h2⟩
theorem own_foot {m : Nat} {H : Heap} {v : V} {l : List Item} (h : Own m H v l) : ∀ q ∈ foot v, m ≤ q ∧ q < H.length := by
  rcases h with ⟨rfl, _⟩ | ⟨q, hq, rfl, h1, h2⟩
  · intro q hq; simp [foot] at hq
  · intro q' hq'; simp [foot] at hq'; subst hq'; exact ⟨hq, (List.getElem?_eq_some_iff.1 h1).1⟩
set_option maxHeartbeats 1000000 in
theorem fork_any {H : Heap} {lm p : Nat} {room : Int} {l : List Item} {v : V} (h : StoreAt H p room l v) (hlp : lm ≤ p) (hb : ∀ x ∈ l, x.body.length ≤ 100) (hn : l.length ≤ 1000) :
    Ev (Call tab (some lm) f_store_Store_Fork [.ptr p 0] H) (fun r => ∃ H1 p1 v1, r = some (.ptr p1 0, H1) ∧ StoreAt H1 p1 room l v1 ∧ H.length ≤ p1 ∧ (∀ q ∈ foot v1, H.length ≤ q) ∧ Fr H H1 []) := by
  obtain ⟨w, G, e, ho, hf⟩ := (all_any h hlp hb hn).so
  have hp := h.at_
  have : Call tab (some lm) f_store_Store_Fork [.ptr p 0] H = some (.ptr G.length 0, G ++ [[.int .i64 room, w]]) := by
    have hpre := fr_pre hf
    have hw : w = .nls ∨ ∃ q, w = .ar 4 q 0 l.length l.length := by
      rcases ho with ⟨rfl, _⟩ | ⟨q, _, rfl, _⟩
      · exact .inl rfl
      · exact .inr ⟨q, rfl⟩
    ((first | refine ev_is ?_ | skip); refine cl_T (cf := c_store_Store_Fork) rfl rfl rfl (by decide) ?_; unfold c_store_Store_Fork; dsimp only [initEnv, Nat.reduceAdd, Nat.zero_add])
    rcases hw with rfl | ⟨q, rfl⟩
    all_goals repeat' (first | (show zz; first | (show zo; refine y_op ?_) | (show zf; first | refine y_gF ?_ | refine y_sk ?_) | (show zm; refine y_mv ?_) | (show zr; refine y_reg ?_) | (show zc; refine y_call ?_ (ha := by first | exact e | assumption)) | (show zn; refine y_calln ?_ (ha := by first | exact e | assumption)) | (show zO; refine y_op0 ?_) | (show ze; refine y_ext ?_) | (show zt; first | refine y_gT ?_ | refine y_sk ?_) | (show zp; refine y_pk ?_) | (show zC; refine y_call0 ?_ (ha := by first | exact e | assumption)) | (show zv; refine y_cav ?_ (ha := by first | exact e | assumption)) | (show zV; refine y_cav0 ?_ (ha := by first | exact e | assumption)) | (show zF; first | refine y_hF ?_ | refine y_sk0 ?_) | (show zT; first | refine y_hT ?_ | refine y_sk0 ?_) | fail) | (show gA; first | (show gD; first | refine gc_tD ?_ | refine gc_fD ?_ | refine gc_D (fun _ => ?_) fun _ => ?_) | (show gE; first | refine gc_tE ?_ | refine gc_fE ?_ | refine gc_E (fun _ => ?_) fun _ => ?_) | (show gN; first | refine gc_tN ?_ | refine gc_fN ?_ | refine gc_N (fun _ => ?_) fun _ => ?_) | refine gc_tB ?_ | refine gc_fB ?_ | refine gc_tS ?_ | refine gc_fS ?_ | refine gc_B (fun _ => ?_) fun _ => ?_) | (show zR; first | (show zs; refine r_seq ?_) | (show zg; refine R_reg rfl ?_) | (show zd; refine y_cnd ?_) | refine r_ret ?_ | refine r_nop ?_ | refine r_blk ?_ | refine r_exit ?_ | fail) | refine k_seq_nrm ?_ | refine k_seq_ret ?_ | refine k_seq_exit ?_ | refine k_blk_nrm ?_ | refine k_blk_ret ?_ | refine k_blk_hit ?_ | refine k_blk_miss (by decide) ?_ | refine k_lp_ret ?_ | refine k_lp_exit ?_ | (show zk; refine y_fin ?_) | (show zj; refine is_ev ?_) | fail)
    all_goals rfl
  have fo := own_foot ho
  refine ⟨_, _, w, this, ⟨?_, ?_, ?_⟩, hf.len, fun q hq => (fo q hq).1, ⟨by have := hf.len; simp; omega, fun i hi hn => ?_⟩⟩
  · rw [List.getElem?_append_right (Nat.le_refl _)]; simp
  · exact ga_fr (own_ga ho) fr_app (F := []) (by simp)
  · intro k; have := fo _ k; omega
  · rw [List.getElem?_append_left (by have := hf.len; omega)]; exact hf.same i hi hn

/-! The document's own. -/
def rsto (room : Int) (l : List Item) : List V := [.int .i64 room, .sl (some 4) l.length (enL l)]
theorem rnew_s {H : Heap} {s : Option Nat} {r : Int} : Call tab s f_ref21_NewStore [.int .i64 r] H = some (.ptr H.length 0, H ++ [rsto (min (max r 0) 64) []]) := by
  unfold rsto
  rw [enL_nil]
  ((first | refine ev_is ?_ | skip); refine cl_T (cf := c_ref21_NewStore) rfl rfl rfl (by decide) ?_; unfold c_ref21_NewStore; dsimp only [initEnv, Nat.reduceAdd, Nat.zero_add])
  repeat' (first | (show zz; first | (show zo; refine y_op ?_) | (show zf; first | refine y_gF ?_ | refine y_sk ?_) | (show zm; refine y_mv ?_) | (show zr; refine y_reg ?_) | (show zc; refine y_call ?_) | (show zn; refine y_calln ?_) | (show zO; refine y_op0 ?_) | (show ze; refine y_ext ?_) | (show zt; first | refine y_gT ?_ | refine y_sk ?_) | (show zp; refine y_pk ?_) | (show zC; refine y_call0 ?_) | (show zv; refine y_cav ?_) | (show zV; refine y_cav0 ?_) | (show zF; first | refine y_hF ?_ | refine y_sk0 ?_) | (show zT; first | refine y_hT ?_ | refine y_sk0 ?_) | fail) | (show gA; first | (show gD; first | refine gc_tD ?_ | refine gc_fD ?_ | refine gc_D (fun _ => ?_) fun _ => ?_) | (show gE; first | refine gc_tE ?_ | refine gc_fE ?_ | refine gc_E (fun _ => ?_) fun _ => ?_) | (show gN; first | refine gc_tN ?_ | refine gc_fN ?_ | refine gc_N (fun _ => ?_) fun _ => ?_) | refine gc_tB ?_ | refine gc_fB ?_ | refine gc_tS ?_ | refine gc_fS ?_ | refine gc_B (fun _ => ?_) fun _ => ?_) | (show zR; first | (show zs; refine r_seq ?_) | (show zg; refine R_reg rfl ?_) | (show zd; refine y_cnd ?_) | refine r_ret ?_ | refine r_nop ?_ | refine r_blk ?_ | refine r_exit ?_ | fail) | refine k_seq_nrm ?_ | refine k_seq_ret ?_ | refine k_seq_exit ?_ | refine k_blk_nrm ?_ | refine k_blk_ret ?_ | refine k_blk_hit ?_ | refine k_blk_miss (by decide) ?_ | refine k_lp_ret ?_ | refine k_lp_exit ?_ | (show zk; refine y_fin ?_) | (show zj; refine is_ev ?_) | fail)
  all_goals rfl
theorem rcopyItem_s {s : Option Nat} {x : Item} {H : Heap} (h : x.body.length ≤ 140737488351232) : Call tab s f_ref21_CopyItem [.agg (Xc x)] H = some (.agg [.int .i64 x.frm, .int .i64 x.to, .int .i64 x.seq, .sl none x.body.length (enL x.body)], H) := by
  ((first | refine ev_is ?_ | skip); refine cl_P (H0 := []) (cf := c_ref21_CopyItem) rfl rfl rfl rfl (by (repeat' (first | assumption | exact enL_rb _ _ | exact rb_int | exact rb_bool | exact rb_str | exact rb_nil | refine rb_sl ?_ | refine rb_cons ?_ ?_ | refine rb_set ?_ ?_ | refine rb_agg ?_ | refine rb_app ?_ ?_ | refine rb_ptr ?_ | (simp only [V.rb]; done) | (simp only [V.rb, V.rbL]; done) | exact Nat.lt_of_lt_of_le (Nat.lt_succ_self _) (Nat.le_of_ble_eq_true rfl) | omega)); (first | done | fail)) ?_; unfold c_ref21_CopyItem; dsimp only [initEnv, Nat.reduceAdd, Nat.zero_add])
  repeat' (first | (show zz; first | (show zo; refine y_op ?_) | (show zf; first | refine y_gF ?_ | refine y_sk ?_) | (show zm; refine y_mv ?_) | (show zr; refine y_reg ?_) | (show zc; refine y_call ?_ (ha := by first | exact copy_b (by omega) | assumption)) | (show zn; refine y_calln ?_ (ha := by first | exact copy_b (by omega) | assumption)) | (show zO; refine y_op0 ?_) | (show ze; refine y_ext ?_) | (show zt; first | refine y_gT ?_ | refine y_sk ?_) | (show zp; refine y_pk ?_) | (show zC; refine y_call0 ?_ (ha := by first | exact copy_b (by omega) | assumption)) | (show zv; refine y_cav ?_ (ha := by first | exact copy_b (by omega) | assumption)) | (show zV; refine y_cav0 ?_ (ha := by first | exact copy_b (by omega) | assumption)) | (show zF; first | refine y_hF ?_ | refine y_sk0 ?_) | (show zT; first | refine y_hT ?_ | refine y_sk0 ?_) | fail) | (show gA; first | (show gD; first | refine gc_tD ?_ | refine gc_fD ?_ | refine gc_D (fun _ => ?_) fun _ => ?_) | (show gE; first | refine gc_tE ?_ | refine gc_fE ?_ | refine gc_E (fun _ => ?_) fun _ => ?_) | (show gN; first | refine gc_tN ?_ | refine gc_fN ?_ | refine gc_N (fun _ => ?_) fun _ => ?_) | refine gc_tB ?_ | refine gc_fB ?_ | refine gc_tS ?_ | refine gc_fS ?_ | refine gc_B (fun _ => ?_) fun _ => ?_) | (show zR; first | (show zs; refine r_seq ?_) | (show zg; refine R_reg rfl ?_) | (show zd; refine y_cnd ?_) | refine r_ret ?_ | refine r_nop ?_ | refine r_blk ?_ | refine r_exit ?_ | fail) | refine k_seq_nrm ?_ | refine k_seq_ret ?_ | refine k_seq_exit ?_ | refine k_blk_nrm ?_ | refine k_blk_ret ?_ | refine k_blk_hit ?_ | refine k_blk_miss (by decide) ?_ | refine k_lp_ret ?_ | refine k_lp_exit ?_ | (show zk; refine y_fin ?_) | (show zj; refine is_ev ?_) | fail)
  all_goals rfl
set_option maxRecDepth 100000 in
set_option maxHeartbeats 2000000 in
theorem rput_s {H : Heap} {lm p : Nat} {room : Int} {x : Item} {l : List Item} (hp : H[p]? = some (rsto room l)) (hlp : lm ≤ p) (hl : l.length ≤ 1000) (hb : x.body.length ≤ 140737488351232) :
    Call tab (some lm) f_ref21_Store_Put [.ptr p 0, .agg (Xc x)] H = some (.int .i64 (putE room l.length x), H.set p (rsto room (putL room l x))) := by
  have k8 := set_same hp
  unfold rsto at *
  unfold putL
  by_cases hx : itemOK x = true
  · have hx' := hx
    simp only [itemOK, pOK, Bool.and_eq_true, decide_eq_true_eq] at hx
    obtain ⟨⟨⟨⟨h1, h2⟩, h3, h4⟩, h5⟩, h6⟩ := hx
    by_cases hb : 24 < x.body.length
    · rw [show putE room l.length x = 3 by simp [putE, hx', hb]]
      simp only [Int.reduceEq, if_false, k8]
      ((first | refine ev_is ?_ | skip); refine cl_T (cf := c_ref21_Store_Put) rfl rfl rfl (by decide) ?_; unfold c_ref21_Store_Put; dsimp only [initEnv, Nat.reduceAdd, Nat.zero_add])
      repeat' (first | (show zz; first | (show zo; refine y_op ?_) | (show zf; first | refine y_gF ?_ | refine y_sk ?_) | (show zm; refine y_mv ?_) | (show zr; refine y_reg ?_) | (show zc; refine y_call ?_ (ha := by first | exact rcopyItem_s (by omega) | assumption)) | (show zn; refine y_calln ?_ (ha := by first | exact rcopyItem_s (by omega) | assumption)) | (show zO; refine y_op0 ?_) | (show ze; refine y_ext ?_) | (show zt; first | refine y_gT ?_ | refine y_sk ?_) | (show zp; refine y_pk ?_) | (show zC; refine y_call0 ?_ (ha := by first | exact rcopyItem_s (by omega) | assumption)) | (show zv; refine y_cav ?_ (ha := by first | exact rcopyItem_s (by omega) | assumption)) | (show zV; refine y_cav0 ?_ (ha := by first | exact rcopyItem_s (by omega) | assumption)) | (show zF; first | refine y_hF ?_ | refine y_sk0 ?_) | (show zT; first | refine y_hT ?_ | refine y_sk0 ?_) | fail) | (show gA; first | (show gD; first | refine gc_tD ?_ | refine gc_fD ?_ | refine gc_D (fun _ => ?_) fun _ => ?_) | (show gE; first | refine gc_tE ?_ | refine gc_fE ?_ | refine gc_E (fun _ => ?_) fun _ => ?_) | (show gN; first | refine gc_tN ?_ | refine gc_fN ?_ | refine gc_N (fun _ => ?_) fun _ => ?_) | refine gc_tB ?_ | refine gc_fB ?_ | refine gc_tS ?_ | refine gc_fS ?_ | refine gc_B (fun _ => ?_) fun _ => ?_) | (show zR; first | (show zs; refine r_seq ?_) | (show zg; refine R_reg rfl ?_) | (show zd; refine y_cnd ?_) | refine r_ret ?_ | refine r_nop ?_ | refine r_blk ?_ | refine r_exit ?_ | fail) | refine k_seq_nrm ?_ | refine k_seq_ret ?_ | refine k_seq_exit ?_ | refine k_blk_nrm ?_ | refine k_blk_ret ?_ | refine k_blk_hit ?_ | refine k_blk_miss (by decide) ?_ | refine k_lp_ret ?_ | refine k_lp_exit ?_ | (show zk; refine y_fin ?_) | (show zj; refine is_ev ?_) | fail)
      all_goals rfl
    · by_cases hr : room ≤ (l.length : Int)
      · rw [show putE room l.length x = 15 by simp [putE, hx', hb, hr]]
        simp only [Int.reduceEq, if_false, k8]
        ((first | refine ev_is ?_ | skip); refine cl_T (cf := c_ref21_Store_Put) rfl rfl rfl (by decide) ?_; unfold c_ref21_Store_Put; dsimp only [initEnv, Nat.reduceAdd, Nat.zero_add])
        repeat' (first | (show zz; first | (show zo; refine y_op ?_) | (show zf; first | refine y_gF ?_ | refine y_sk ?_) | (show zm; refine y_mv ?_) | (show zr; refine y_reg ?_) | (show zc; refine y_call ?_ (ha := by first | exact rcopyItem_s (by omega) | assumption)) | (show zn; refine y_calln ?_ (ha := by first | exact rcopyItem_s (by omega) | assumption)) | (show zO; refine y_op0 ?_) | (show ze; refine y_ext ?_) | (show zt; first | refine y_gT ?_ | refine y_sk ?_) | (show zp; refine y_pk ?_) | (show zC; refine y_call0 ?_ (ha := by first | exact rcopyItem_s (by omega) | assumption)) | (show zv; refine y_cav ?_ (ha := by first | exact rcopyItem_s (by omega) | assumption)) | (show zV; refine y_cav0 ?_ (ha := by first | exact rcopyItem_s (by omega) | assumption)) | (show zF; first | refine y_hF ?_ | refine y_sk0 ?_) | (show zT; first | refine y_hT ?_ | refine y_sk0 ?_) | fail) | (show gA; first | (show gD; first | refine gc_tD ?_ | refine gc_fD ?_ | refine gc_D (fun _ => ?_) fun _ => ?_) | (show gE; first | refine gc_tE ?_ | refine gc_fE ?_ | refine gc_E (fun _ => ?_) fun _ => ?_) | (show gN; first | refine gc_tN ?_ | refine gc_fN ?_ | refine gc_N (fun _ => ?_) fun _ => ?_) | refine gc_tB ?_ | refine gc_fB ?_ | refine gc_tS ?_ | refine gc_fS ?_ | refine gc_B (fun _ => ?_) fun _ => ?_) | (show zR; first | (show zs; refine r_seq ?_) | (show zg; refine R_reg rfl ?_) | (show zd; refine y_cnd ?_) | refine r_ret ?_ | refine r_nop ?_ | refine r_blk ?_ | refine r_exit ?_ | fail) | refine k_seq_nrm ?_ | refine k_seq_ret ?_ | refine k_seq_exit ?_ | refine k_blk_nrm ?_ | refine k_blk_ret ?_ | refine k_blk_hit ?_ | refine k_blk_miss (by decide) ?_ | refine k_lp_ret ?_ | refine k_lp_exit ?_ | (show zk; refine y_fin ?_) | (show zj; refine is_ev ?_) | fail)
        all_goals rfl
      · rw [show putE room l.length x = 0 by simp [putE, hx', hb, hr]]
        simp only [if_true]
        ((first | refine ev_is ?_ | skip); refine cl_T (cf := c_ref21_Store_Put) rfl rfl rfl (by decide) ?_; unfold c_ref21_Store_Put; dsimp only [initEnv, Nat.reduceAdd, Nat.zero_add])
        repeat' (first | (show zz; first | (show zo; refine y_op ?_) | (show zf; first | refine y_gF ?_ | refine y_sk ?_) | (show zm; refine y_mv ?_) | (show zr; refine y_reg ?_) | (show zc; refine y_call ?_ (ha := by first | exact rcopyItem_s (by omega) | assumption)) | (show zn; refine y_calln ?_ (ha := by first | exact rcopyItem_s (by omega) | assumption)) | (show zO; refine y_op0 ?_) | (show ze; refine y_ext ?_) | (show zt; first | refine y_gT ?_ | refine y_sk ?_) | (show zp; refine y_pk ?_) | (show zC; refine y_call0 ?_ (ha := by first | exact rcopyItem_s (by omega) | assumption)) | (show zv; refine y_cav ?_ (ha := by first | exact rcopyItem_s (by omega) | assumption)) | (show zV; refine y_cav0 ?_ (ha := by first | exact rcopyItem_s (by omega) | assumption)) | (show zF; first | refine y_hF ?_ | refine y_sk0 ?_) | (show zT; first | refine y_hT ?_ | refine y_sk0 ?_) | fail) | (show gA; first | (show gD; first | refine gc_tD ?_ | refine gc_fD ?_ | refine gc_D (fun _ => ?_) fun _ => ?_) | (show gE; first | refine gc_tE ?_ | refine gc_fE ?_ | refine gc_E (fun _ => ?_) fun _ => ?_) | (show gN; first | refine gc_tN ?_ | refine gc_fN ?_ | refine gc_N (fun _ => ?_) fun _ => ?_) | refine gc_tB ?_ | refine gc_fB ?_ | refine gc_tS ?_ | refine gc_fS ?_ | refine gc_B (fun _ => ?_) fun _ => ?_) | (show zR; first | (show zs; refine r_seq ?_) | (show zg; refine R_reg rfl ?_) | (show zd; refine y_cnd ?_) | refine r_ret ?_ | refine r_nop ?_ | refine r_blk ?_ | refine r_exit ?_ | fail) | refine k_seq_nrm ?_ | refine k_seq_ret ?_ | refine k_seq_exit ?_ | refine k_blk_nrm ?_ | refine k_blk_ret ?_ | refine k_blk_hit ?_ | refine k_blk_miss (by decide) ?_ | refine k_lp_ret ?_ | refine k_lp_exit ?_ | (show zk; refine y_fin ?_) | (show zj; refine is_ev ?_) | fail)
        all_goals (simp only [List.set_set, List.length_append, List.length_cons, List.length_nil]; first | done | rfl)
  · rw [show putE room l.length x = 1 by simp [putE, hx]]
    simp only [itemOK, pOK, Bool.and_eq_true, decide_eq_true_eq] at hx
    simp only [Int.reduceEq, if_false, k8]
    ((first | refine ev_is ?_ | skip); refine cl_T (cf := c_ref21_Store_Put) rfl rfl rfl (by decide) ?_; unfold c_ref21_Store_Put; dsimp only [initEnv, Nat.reduceAdd, Nat.zero_add])
    repeat' (first | (show zz; first | (show zo; refine y_op ?_) | (show zf; first | refine y_gF ?_ | refine y_sk ?_) | (show zm; refine y_mv ?_) | (show zr; refine y_reg ?_) | (show zc; refine y_call ?_ (ha := by first | exact rcopyItem_s (by omega) | assumption)) | (show zn; refine y_calln ?_ (ha := by first | exact rcopyItem_s (by omega) | assumption)) | (show zO; refine y_op0 ?_) | (show ze; refine y_ext ?_) | (show zt; first | refine y_gT ?_ | refine y_sk ?_) | (show zp; refine y_pk ?_) | (show zC; refine y_call0 ?_ (ha := by first | exact rcopyItem_s (by omega) | assumption)) | (show zv; refine y_cav ?_ (ha := by first | exact rcopyItem_s (by omega) | assumption)) | (show zV; refine y_cav0 ?_ (ha := by first | exact rcopyItem_s (by omega) | assumption)) | (show zF; first | refine y_hF ?_ | refine y_sk0 ?_) | (show zT; first | refine y_hT ?_ | refine y_sk0 ?_) | fail) | (show gA; first | (show gD; first | refine gc_tD ?_ | refine gc_fD ?_ | refine gc_D (fun _ => ?_) fun _ => ?_) | (show gE; first | refine gc_tE ?_ | refine gc_fE ?_ | refine gc_E (fun _ => ?_) fun _ => ?_) | (show gN; first | refine gc_tN ?_ | refine gc_fN ?_ | refine gc_N (fun _ => ?_) fun _ => ?_) | refine gc_tB ?_ | refine gc_fB ?_ | refine gc_tS ?_ | refine gc_fS ?_ | refine gc_B (fun _ => ?_) fun _ => ?_) | (show zR; first | (show zs; refine r_seq ?_) | (show zg; refine R_reg rfl ?_) | (show zd; refine y_cnd ?_) | refine r_ret ?_ | refine r_nop ?_ | refine r_blk ?_ | refine r_exit ?_ | fail) | refine k_seq_nrm ?_ | refine k_seq_ret ?_ | refine k_seq_exit ?_ | refine k_blk_nrm ?_ | refine k_blk_ret ?_ | refine k_blk_hit ?_ | refine k_blk_miss (by decide) ?_ | refine k_lp_ret ?_ | refine k_lp_exit ?_ | (show zk; refine y_fin ?_) | (show zj; refine is_ev ?_) | fail)
    all_goals first | rfl | (exfalso; omega)
end Go.Abs
