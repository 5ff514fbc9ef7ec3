/-
  Deeds on stores.
-/
import Derived.Test.YtcfefgeheibadaaSt6
namespace Go.Abs
open Go.Proofs.Ytcfefgeheibadaa
attribute [local irreducible] enL R RR kSeq kBlk kLp kReg kFin kFn apply evs evX edel ekeep eins fillV lay resAll finish trim mayW frz frz1 V.rb V.rbL
/-! Deeds that are few and short. -/
abbrev tyDeed : Ty := .st [.int .i64, .int .i64, tyItem]
theorem tv_deed {cs : List V} (h : TyV tyDeed cs) : ∃ x : Deed, cs = Cel.enc x ∧ True := by
  simp only [tyDeed, TyV, TyL] at h
  obtain ⟨_, _, rfl, ⟨a, rfl, ha⟩, _, _, rfl, ⟨b, rfl, hb⟩, c, _, rfl, hc, rfl⟩ := h
  obtain ⟨x, rfl, hx⟩ := tv_item (cs := c) (by simpa only [tyItem, TyV, TyL] using hc)
  exact ⟨⟨a, b, x⟩, by rw [List.append_nil]; rfl, trivial⟩
def short (l : List Deed) : Bool := l.all fun d => decide (d.x.body.length ≤ 60)
set_option maxHeartbeats 2000000 in
theorem small_s {s : Option Nat} {l : List Deed} {m : Int} {H : Heap} (hl : l.length ≤ 140737488351232) : Call tab s f_law21_small [.sl none l.length (enL l), .int .i64 m] H = some (.bool (decide ((l.length : Int) ≤ m) && short l), H) := by
  ((first | refine ev_is ?_ | skip); refine cl_P (H0 := []) (cf := c_law21_small) rfl rfl rfl rfl (by (repeat' (first | assumption | exact enL_rb _ _ | exact rb_int | exact rb_bool | exact rb_str | exact rb_nil | refine rb_sl ?_ | refine rb_cons ?_ ?_ | refine rb_set ?_ ?_ | refine rb_agg ?_ | refine rb_app ?_ ?_ | refine rb_ptr ?_ | (simp only [V.rb]; done) | (simp only [V.rb, V.rbL]; done) | exact Nat.lt_of_lt_of_le (Nat.lt_succ_self _) (Nat.le_of_ble_eq_true rfl) | omega)); (first | done | fail)) ?_; unfold c_law21_small; dsimp only [initEnv, Nat.reduceAdd, Nat.zero_add])
  by_cases hm : (l.length : Int) ≤ m
  · repeat' (first | (show zz; first | (show zo; refine y_op ?_) | (show zf; first | refine y_gF ?_ | refine y_sk ?_) | (show zm; refine y_mv ?_) | (show zr; refine y_reg ?_) | (show zc; refine y_call ?_) | (show zn; refine y_calln ?_) | (show zO; refine y_op0 ?_) | (show ze; refine y_ext ?_) | (show zt; first | refine y_gT ?_ | refine y_sk ?_) | (show zp; refine y_pk ?_) | (show zC; refine y_call0 ?_) | (show zv; refine y_cav ?_) | (show zV; refine y_cav0 ?_) | (show zF; first | refine y_hF ?_ | refine y_sk0 ?_) | (show zT; first | refine y_hT ?_ | refine y_sk0 ?_) | fail) | (show gA; first | (show gD; first | refine gc_tD ?_ | refine gc_fD ?_ | refine gc_D (fun _ => ?_) fun _ => ?_) | (show gE; first | refine gc_tE ?_ | refine gc_fE ?_ | refine gc_E (fun _ => ?_) fun _ => ?_) | (show gN; first | refine gc_tN ?_ | refine gc_fN ?_ | refine gc_N (fun _ => ?_) fun _ => ?_) | refine gc_tB ?_ | refine gc_fB ?_ | refine gc_tS ?_ | refine gc_fS ?_ | refine gc_B (fun _ => ?_) fun _ => ?_) | (show zR; first | (show zs; refine r_seq ?_) | (show zg; refine R_reg rfl ?_) | (show zd; refine y_cnd ?_) | refine r_ret ?_ | refine r_nop ?_ | refine r_blk ?_ | refine r_exit ?_ | fail) | refine k_seq_nrm ?_ | refine k_seq_ret ?_ | refine k_seq_exit ?_ | refine k_blk_nrm ?_ | refine k_blk_ret ?_ | refine k_blk_hit ?_ | refine k_blk_miss (by decide) ?_ | refine k_lp_ret ?_ | refine k_lp_exit ?_ | (show zk; refine y_fin ?_) | (show zj; refine is_ev ?_) | fail)
    refine lp_v l.length (fun i (_ : Unit) => [(5, .int .i64 i)]) (fun _ _ => []) (fun i _ => short l = short (l.drop i)) ?_ ?_ () (by simp)
    · rintro i t hi hP ih
      obtain ⟨x, hx⟩ := getq hi
      have hd : l.drop i = x :: l.drop (i + 1) := by
        obtain ⟨h1, rfl⟩ := List.getElem?_eq_some_iff.1 hx; exact List.drop_eq_getElem_cons h1
      rw [hd] at hP
      refine upd_to (by dsimp only [upd, lk, Nat.reduceBEq, cond_true, cond_false, Option.getD_some, Option.getD_none]; first | done | exact rfl) ?_; refine r_loop ?_
      unfold l_law21_small_0
      by_cases hb : x.x.body.length ≤ 60
      · repeat' (first | (show zz; first | (show zo; refine y_op ?_) | (show zf; first | refine y_gF ?_ | refine y_sk ?_) | (show zm; refine y_mv ?_) | (show zr; refine y_reg ?_) | (show zc; refine y_call ?_) | (show zn; refine y_calln ?_) | (show zO; refine y_op0 ?_) | (show ze; refine y_ext ?_) | (show zt; first | refine y_gT ?_ | refine y_sk ?_) | (show zp; refine y_pk ?_) | (show zC; refine y_call0 ?_) | (show zv; refine y_cav ?_) | (show zV; refine y_cav0 ?_) | (show zF; first | refine y_hF ?_ | refine y_sk0 ?_) | (show zT; first | refine y_hT ?_ | refine y_sk0 ?_) | fail) | (show gA; first | (show gD; first | refine gc_tD ?_ | refine gc_fD ?_ | refine gc_D (fun _ => ?_) fun _ => ?_) | (show gE; first | refine gc_tE ?_ | refine gc_fE ?_ | refine gc_E (fun _ => ?_) fun _ => ?_) | (show gN; first | refine gc_tN ?_ | refine gc_fN ?_ | refine gc_N (fun _ => ?_) fun _ => ?_) | refine gc_tB ?_ | refine gc_fB ?_ | refine gc_tS ?_ | refine gc_fS ?_ | refine gc_B (fun _ => ?_) fun _ => ?_) | (show zR; first | (show zs; refine r_seq ?_) | (show zg; refine R_reg rfl ?_) | (show zd; refine y_cnd ?_) | refine r_ret ?_ | refine r_nop ?_ | refine r_blk ?_ | refine r_exit ?_ | fail) | refine k_seq_nrm ?_ | refine k_seq_ret ?_ | refine k_seq_exit ?_ | refine k_blk_nrm ?_ | refine k_blk_ret ?_ | refine k_blk_hit ?_ | refine k_blk_miss (by decide) ?_ | refine k_lp_ret ?_ | refine k_lp_exit ?_ | (show zk; refine y_fin ?_) | (show zj; refine is_ev ?_) | fail)
        refine y_lps ?_
        exact ih () (by rw [hP, short, List.all_cons, decide_eq_true hb]; rfl)
      · repeat' (first | (show zz; first | (show zo; refine y_op ?_) | (show zf; first | refine y_gF ?_ | refine y_sk ?_) | (show zm; refine y_mv ?_) | (show zr; refine y_reg ?_) | (show zc; refine y_call ?_) | (show zn; refine y_calln ?_) | (show zO; refine y_op0 ?_) | (show ze; refine y_ext ?_) | (show zt; first | refine y_gT ?_ | refine y_sk ?_) | (show zp; refine y_pk ?_) | (show zC; refine y_call0 ?_) | (show zv; refine y_cav ?_) | (show zV; refine y_cav0 ?_) | (show zF; first | refine y_hF ?_ | refine y_sk0 ?_) | (show zT; first | refine y_hT ?_ | refine y_sk0 ?_) | fail) | (show gA; first | (show gD; first | refine gc_tD ?_ | refine gc_fD ?_ | refine gc_D (fun _ => ?_) fun _ => ?_) | (show gE; first | refine gc_tE ?_ | refine gc_fE ?_ | refine gc_E (fun _ => ?_) fun _ => ?_) | (show gN; first | refine gc_tN ?_ | refine gc_fN ?_ | refine gc_N (fun _ => ?_) fun _ => ?_) | refine gc_tB ?_ | refine gc_fB ?_ | refine gc_tS ?_ | refine gc_fS ?_ | refine gc_B (fun _ => ?_) fun _ => ?_) | (show zR; first | (show zs; refine r_seq ?_) | (show zg; refine R_reg rfl ?_) | (show zd; refine y_cnd ?_) | refine r_ret ?_ | refine r_nop ?_ | refine r_blk ?_ | refine r_exit ?_ | fail) | refine k_seq_nrm ?_ | refine k_seq_ret ?_ | refine k_seq_exit ?_ | refine k_blk_nrm ?_ | refine k_blk_ret ?_ | refine k_blk_hit ?_ | refine k_blk_miss (by decide) ?_ | refine k_lp_ret ?_ | refine k_lp_exit ?_ | (show zk; refine y_fin ?_) | (show zj; refine is_ev ?_) | fail)
        rw [hP]; simp [short, hb]
    · rintro t hP
      refine upd_to (by dsimp only [upd, lk, Nat.reduceBEq, cond_true, cond_false, Option.getD_some, Option.getD_none]; first | done | exact rfl) ?_; refine r_loop ?_
      unfold l_law21_small_0
      repeat' (first | (show zz; first | (show zo; refine y_op ?_) | (show zf; first | refine y_gF ?_ | refine y_sk ?_) | (show zm; refine y_mv ?_) | (show zr; refine y_reg ?_) | (show zc; refine y_call ?_) | (show zn; refine y_calln ?_) | (show zO; refine y_op0 ?_) | (show ze; refine y_ext ?_) | (show zt; first | refine y_gT ?_ | refine y_sk ?_) | (show zp; refine y_pk ?_) | (show zC; refine y_call0 ?_) | (show zv; refine y_cav ?_) | (show zV; refine y_cav0 ?_) | (show zF; first | refine y_hF ?_ | refine y_sk0 ?_) | (show zT; first | refine y_hT ?_ | refine y_sk0 ?_) | fail) | (show gA; first | (show gD; first | refine gc_tD ?_ | refine gc_fD ?_ | refine gc_D (fun _ => ?_) fun _ => ?_) | (show gE; first | refine gc_tE ?_ | refine gc_fE ?_ | refine gc_E (fun _ => ?_) fun _ => ?_) | (show gN; first | refine gc_tN ?_ | refine gc_fN ?_ | refine gc_N (fun _ => ?_) fun _ => ?_) | refine gc_tB ?_ | refine gc_fB ?_ | refine gc_tS ?_ | refine gc_fS ?_ | refine gc_B (fun _ => ?_) fun _ => ?_) | (show zR; first | (show zs; refine r_seq ?_) | (show zg; refine R_reg rfl ?_) | (show zd; refine y_cnd ?_) | refine r_ret ?_ | refine r_nop ?_ | refine r_blk ?_ | refine r_exit ?_ | fail) | refine k_seq_nrm ?_ | refine k_seq_ret ?_ | refine k_seq_exit ?_ | refine k_blk_nrm ?_ | refine k_blk_ret ?_ | refine k_blk_hit ?_ | refine k_blk_miss (by decide) ?_ | refine k_lp_ret ?_ | refine k_lp_exit ?_ | (show zk; refine y_fin ?_) | (show zj; refine is_ev ?_) | fail)
      rw [hP]; simp [short, hm]
  · repeat' (first | (show zz; first | (show zo; refine y_op ?_) | (show zf; first | refine y_gF ?_ | refine y_sk ?_) | (show zm; refine y_mv ?_) | (show zr; refine y_reg ?_) | (show zc; refine y_call ?_) | (show zn; refine y_calln ?_) | (show zO; refine y_op0 ?_) | (show ze; refine y_ext ?_) | (show zt; first | refine y_gT ?_ | refine y_sk ?_) | (show zp; refine y_pk ?_) | (show zC; refine y_call0 ?_) | (show zv; refine y_cav ?_) | (show zV; refine y_cav0 ?_) | (show zF; first | refine y_hF ?_ | refine y_sk0 ?_) | (show zT; first | refine y_hT ?_ | refine y_sk0 ?_) | fail) | (show gA; first | (show gD; first | refine gc_tD ?_ | refine gc_fD ?_ | refine gc_D (fun _ => ?_) fun _ => ?_) | (show gE; first | refine gc_tE ?_ | refine gc_fE ?_ | refine gc_E (fun _ => ?_) fun _ => ?_) | (show gN; first | refine gc_tN ?_ | refine gc_fN ?_ | refine gc_N (fun _ => ?_) fun _ => ?_) | refine gc_tB ?_ | refine gc_fB ?_ | refine gc_tS ?_ | refine gc_fS ?_ | refine gc_B (fun _ => ?_) fun _ => ?_) | (show zR; first | (show zs; refine r_seq ?_) | (show zg; refine R_reg rfl ?_) | (show zd; refine y_cnd ?_) | refine r_ret ?_ | refine r_nop ?_ | refine r_blk ?_ | refine r_exit ?_ | fail) | refine k_seq_nrm ?_ | refine k_seq_ret ?_ | refine k_seq_exit ?_ | refine k_blk_nrm ?_ | refine k_blk_ret ?_ | refine k_blk_hit ?_ | refine k_blk_miss (by decide) ?_ | refine k_lp_ret ?_ | refine k_lp_exit ?_ | (show zk; refine y_fin ?_) | (show zj; refine is_ev ?_) | fail)
    simp [hm]
theorem fr_set1 {H : Heap} {i : Nat} {c : List V} : Fr H (H.set i c) [i] := ⟨by simp, fun j _ hn => by rw [List.getElem?_set_ne (by simp at hn; omega)]⟩
theorem putL_len {room : Int} {l : List Item} {x : Item} (hr : room ≤ 64) (h : l.length ≤ 64) : (putL room l x).length ≤ 64 := by
  unfold putL
  by_cases k : room ≤ (l.length : Int)
  · have : putE room l.length x ≠ 0 := by unfold putE; rw [if_pos k]; split <;> (try split) <;> decide
    rw [if_neg this]; exact h
  · split
    · simp; omega
    · exact h
theorem putL_bd {room : Int} {l : List Item} {x : Item} (hx : x.body.length ≤ 60) (h : ∀ x ∈ l, x.body.length ≤ 100) : ∀ y ∈ putL room l x, y.body.length ≤ 100 := by
  unfold putL
  split
  · intro y hy
    rcases List.mem_append.1 hy with hy | hy
    · exact h y hy
    · simp at hy; subst hy; omega
  · exact h
end Go.Abs
