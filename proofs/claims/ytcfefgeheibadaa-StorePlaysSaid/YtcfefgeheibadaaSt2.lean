/-
  All that a store holds, and another store alike.
-/
import Derived.Test.YtcfefgeheibadaaSt1
import Derived.Test.YtcfefgeheibadaaAbsE6
namespace Go.Abs
open Go.Proofs.Ytcfefgeheibadaa
attribute [local irreducible] enL R RR kSeq kBlk kLp kReg kFin kFn apply evs evX edel ekeep eins fillV lay resAll finish trim mayW frz frz1 V.rb V.rbL

/-- A slice of its own that has grown one by one. -/
def Own (m : Nat) (H : Heap) (v : V) (l : List Item) : Prop :=
  (v = .nls ∧ l = []) ∨ ∃ q, m ≤ q ∧ v = .ar 4 q 0 l.length l.length ∧ H[q]? = some (enL l) ∧ l ≠ []
theorem sc_dt {l : List Item} {rest : List V} {i : Nat} {x : Item} (h : l[i]? = some x) : ((enL l ++ rest).drop (i * 4)).take 4 = Xc x := by
  have hl := (List.getElem?_eq_some_iff.1 h).1
  have e := enL_piece h
  have : (enL l).length = l.length * 4 := enL_lz l rfl
  rw [List.drop_append_of_le_length (by omega), List.take_append_of_le_length (by rw [List.length_drop]; omega)]
  exact e

theorem enL_one (x : Item) : enL [x] = Xc x := by rw [enL_cons, enL_nil, List.append_nil]; rfl
theorem enL_snoc (os : List Item) (x : Item) : (enL os).take (os.length * 4) ++ Xc x = enL (os ++ [x]) := by
  rw [enL_app, enL_one, List.take_of_length_le (by rw [enL_lz os rfl]; exact Nat.le_refl _)]
set_option maxRecDepth 100000 in
set_option maxHeartbeats 2000000 in
theorem all_s {H : Heap} {l p q k : Nat} {room : Int} {gs : List Item} {rest : List V} (hp : H[p]? = some [.int .i64 room, .ar 4 q 0 gs.length k]) (hq : H[q]? = some (enL gs ++ rest)) (hb : ∀ x ∈ gs, x.body.length ≤ 100) (hg : gs.length ≤ 1000) (hl : l ≤ H.length) :
    Ev (Call tab (some l) f_store_Store_All [.ptr p 0] H) (fun r => ∃ v H1, r = some (v, H1) ∧ Own H.length H1 v gs ∧ Fr H H1 []) := by
  ((first | refine ev_is ?_ | skip); refine cl_T (cf := c_store_Store_All) rfl rfl rfl (by decide) ?_; unfold c_store_Store_All; dsimp only [initEnv, Nat.reduceAdd, Nat.zero_add])
  repeat' (first | (show zz; first | (show zo; refine y_op ?_) | (show zf; first | refine y_gF ?_ | refine y_sk ?_) | (show zm; refine y_mv ?_) | (show zr; refine y_reg ?_) | (show zc; refine y_call ?_) | (show zn; refine y_calln ?_) | (show zO; refine y_op0 ?_) | (show ze; refine y_ext ?_) | (show zt; first | refine y_gT ?_ | refine y_sk ?_) | (show zp; refine y_pk ?_) | (show zC; refine y_call0 ?_) | (show zv; refine y_cav ?_) | (show zV; refine y_cav0 ?_) | (show zF; first | refine y_hF ?_ | refine y_sk0 ?_) | (show zT; first | refine y_hT ?_ | refine y_sk0 ?_) | fail) | (show gA; first | (show gD; first | refine gc_tD ?_ | refine gc_fD ?_ | refine gc_D (fun _ => ?_) fun _ => ?_) | (show gE; first | refine gc_tE ?_ | refine gc_fE ?_ | refine gc_E (fun _ => ?_) fun _ => ?_) | (show gN; first | refine gc_tN ?_ | refine gc_fN ?_ | refine gc_N (fun _ => ?_) fun _ => ?_) | refine gc_tB ?_ | refine gc_fB ?_ | refine gc_tS ?_ | refine gc_fS ?_ | refine gc_B (fun _ => ?_) fun _ => ?_) | (show zR; first | (show zs; refine r_seq ?_) | (show zg; refine R_reg rfl ?_) | (show zd; refine y_cnd ?_) | refine r_ret ?_ | refine r_nop ?_ | refine r_blk ?_ | refine r_exit ?_ | fail) | refine k_seq_nrm ?_ | refine k_seq_ret ?_ | refine k_seq_exit ?_ | refine k_blk_nrm ?_ | refine k_blk_ret ?_ | refine k_blk_hit ?_ | refine k_blk_miss (by decide) ?_ | refine k_lp_ret ?_ | refine k_lp_exit ?_ | (show zk; refine y_fin ?_) | (show zj; refine is_ev ?_) | fail)
  refine lp_up gs.length (fun i (t : V × Heap) => [(3, t.1), (11, .ar 4 q 0 gs.length k), (12, .int .i64 gs.length), (13, .int .i64 i)]) (fun _ t => t.2) (fun i t => Own H.length t.2 t.1 (gs.take i) ∧ Fr H t.2 []) ?_ ?_ (.nls, H) ⟨.inl ⟨rfl, rfl⟩, ⟨Nat.le_refl _, fun _ _ _ => rfl⟩⟩
  · rintro i ⟨o, G⟩ hi ⟨ho, hf⟩ ih
    dsimp only at ho hf ⊢
    obtain ⟨x, hx⟩ := getq hi
    have e3 := hb x (List.mem_of_getElem? hx)
    have hql := (List.getElem?_eq_some_iff.1 hq).1
    have hGq : G[q]? = some (enL gs ++ rest) := by rw [hf.same q hql (by simp)]; exact hq
    have e5 := sc_dt (rest := rest) hx
    have e6 : l ≤ G.length := by have := hf.len; omega
    have e10 := take_succ' hx
    have e11 : (gs.take i).length ≤ 1000 := by rw [List.length_take]; omega
    generalize gs.take i = os at *
    rcases ho with ⟨rfl, h0⟩ | ⟨qo, h1, rfl, h3, h4⟩
    · subst h0
      refine r_loop ?_
      unfold l_store_Store_All_0
      repeat' (first | (show zz; first | (show zo; refine y_op ?_) | (show zf; first | refine y_gF ?_ | refine y_sk ?_) | (show zm; refine y_mv ?_) | (show zr; refine y_reg ?_) | (show zc; refine y_call ?_ (ha := by first | exact sclone_s (by omega) | assumption)) | (show zn; refine y_calln ?_ (ha := by first | exact sclone_s (by omega) | assumption)) | (show zO; refine y_op0 ?_) | (show ze; refine y_ext ?_) | (show zt; first | refine y_gT ?_ | refine y_sk ?_) | (show zp; refine y_pk ?_) | (show zC; refine y_call0 ?_ (ha := by first | exact sclone_s (by omega) | assumption)) | (show zv; refine y_cav ?_ (ha := by first | exact sclone_s (by omega) | assumption)) | (show zV; refine y_cav0 ?_ (ha := by first | exact sclone_s (by omega) | assumption)) | (show zF; first | refine y_hF ?_ | refine y_sk0 ?_) | (show zT; first | refine y_hT ?_ | refine y_sk0 ?_) | fail) | (show gA; first | (show gD; first | refine gc_tD ?_ | refine gc_fD ?_ | refine gc_D (fun _ => ?_) fun _ => ?_) | (show gE; first | refine gc_tE ?_ | refine gc_fE ?_ | refine gc_E (fun _ => ?_) fun _ => ?_) | (show gN; first | refine gc_tN ?_ | refine gc_fN ?_ | refine gc_N (fun _ => ?_) fun _ => ?_) | refine gc_tB ?_ | refine gc_fB ?_ | refine gc_tS ?_ | refine gc_fS ?_ | refine gc_B (fun _ => ?_) fun _ => ?_) | (show zR; first | (show zs; refine r_seq ?_) | (show zg; refine R_reg rfl ?_) | (show zd; refine y_cnd ?_) | refine r_ret ?_ | refine r_nop ?_ | refine r_blk ?_ | refine r_exit ?_ | fail) | refine k_seq_nrm ?_ | refine k_seq_ret ?_ | refine k_seq_exit ?_ | refine k_blk_nrm ?_ | refine k_blk_ret ?_ | refine k_blk_hit ?_ | refine k_blk_miss (by decide) ?_ | refine k_lp_ret ?_ | refine k_lp_exit ?_ | (show zk; refine y_fin ?_) | (show zj; refine is_ev ?_) | fail)
      refine y_lpn ?_
      refine ih (_, _) ⟨?_, ?_⟩
      · rw [← e10]
        exact .inr ⟨_, by (have := hf.len; simp; omega), rfl, by rw [List.getElem?_append_right (Nat.le_refl _), Nat.sub_self, List.nil_append, enL_one]; rfl, by simp⟩
      · exact ⟨by (have := hf.len; simp; omega), fun j hj hn => by
          rw [List.getElem?_append_left (by (have := hf.len; simp; omega)), List.getElem?_append_left (by have := hf.len; omega)]; exact hf.same j hj hn⟩
    · have e7 : os.length * 4 ≤ (enL os).length := by rw [enL_lz os rfl]; exact Nat.le_refl _
      have e8 : enL os ≠ [] := fun e => h4 (by have := enL_lz (z := 4) os rfl; rw [e] at this; exact List.length_eq_zero_iff.1 (by simp at this; omega))
      have e9 : l ≤ qo := by omega
      refine r_loop ?_
      unfold l_store_Store_All_0
      repeat' (first | (show zz; first | (show zo; refine y_op ?_) | (show zf; first | refine y_gF ?_ | refine y_sk ?_) | (show zm; refine y_mv ?_) | (show zr; refine y_reg ?_) | (show zc; refine y_call ?_ (ha := by first | exact sclone_s (by omega) | assumption)) | (show zn; refine y_calln ?_ (ha := by first | exact sclone_s (by omega) | assumption)) | (show zO; refine y_op0 ?_) | (show ze; refine y_ext ?_) | (show zt; first | refine y_gT ?_ | refine y_sk ?_) | (show zp; refine y_pk ?_) | (show zC; refine y_call0 ?_ (ha := by first | exact sclone_s (by omega) | assumption)) | (show zv; refine y_cav ?_ (ha := by first | exact sclone_s (by omega) | assumption)) | (show zV; refine y_cav0 ?_ (ha := by first | exact sclone_s (by omega) | assumption)) | (show zF; first | refine y_hF ?_ | refine y_sk0 ?_) | (show zT; first | refine y_hT ?_ | refine y_sk0 ?_) | fail) | (show gA; first | (show gD; first | refine gc_tD ?_ | refine gc_fD ?_ | refine gc_D (fun _ => ?_) fun _ => ?_) | (show gE; first | refine gc_tE ?_ | refine gc_fE ?_ | refine gc_E (fun _ => ?_) fun _ => ?_) | (show gN; first | refine gc_tN ?_ | refine gc_fN ?_ | refine gc_N (fun _ => ?_) fun _ => ?_) | refine gc_tB ?_ | refine gc_fB ?_ | refine gc_tS ?_ | refine gc_fS ?_ | refine gc_B (fun _ => ?_) fun _ => ?_) | (show zR; first | (show zs; refine r_seq ?_) | (show zg; refine R_reg rfl ?_) | (show zd; refine y_cnd ?_) | refine r_ret ?_ | refine r_nop ?_ | refine r_blk ?_ | refine r_exit ?_ | fail) | refine k_seq_nrm ?_ | refine k_seq_ret ?_ | refine k_seq_exit ?_ | refine k_blk_nrm ?_ | refine k_blk_ret ?_ | refine k_blk_hit ?_ | refine k_blk_miss (by decide) ?_ | refine k_lp_ret ?_ | refine k_lp_exit ?_ | (show zk; refine y_fin ?_) | (show zj; refine is_ev ?_) | fail)
      refine y_lpn ?_
      refine ih (_, _) ⟨?_, ?_⟩
      · rw [← e10]
        exact .inr ⟨(G ++ [Xc x]).length, by (have := hf.len; simp; omega), by rw [show (os ++ [x]).length = os.length + 1 from by simp], by rw [List.getElem?_append_right (by simp), enL_snoc]; simp, by simp⟩
      · exact ⟨by (have := hf.len; simp; omega), fun j hj hn => by
          rw [List.getElem?_append_left (by (have := hf.len; simp; omega)), List.getElem?_append_left (by (have := hf.len; simp; omega)), List.getElem?_set_ne (by omega)]; exact hf.same j hj hn⟩
  · rintro ⟨o, G⟩ ⟨ho, hf⟩
    rw [List.take_length] at ho
    dsimp only at ho hf ⊢
    refine r_loop ?_
    unfold l_store_Store_All_0
    have hO := ho
    rcases ho with ⟨rfl, _⟩ | ⟨qo, _, rfl, _⟩
    all_goals repeat' (first | (show zz; first | (show zo; refine y_op ?_) | (show zf; first | refine y_gF ?_ | refine y_sk ?_) | (show zm; refine y_mv ?_) | (show zr; refine y_reg ?_) | (show zc; refine y_call ?_) | (show zn; refine y_calln ?_) | (show zO; refine y_op0 ?_) | (show ze; refine y_ext ?_) | (show zt; first | refine y_gT ?_ | refine y_sk ?_) | (show zp; refine y_pk ?_) | (show zC; refine y_call0 ?_) | (show zv; refine y_cav ?_) | (show zV; refine y_cav0 ?_) | (show zF; first | refine y_hF ?_ | refine y_sk0 ?_) | (show zT; first | refine y_hT ?_ | refine y_sk0 ?_) | fail) | (show gA; first | (show gD; first | refine gc_tD ?_ | refine gc_fD ?_ | refine gc_D (fun _ => ?_) fun _ => ?_) | (show gE; first | refine gc_tE ?_ | refine gc_fE ?_ | refine gc_E (fun _ => ?_) fun _ => ?_) | (show gN; first | refine gc_tN ?_ | refine gc_fN ?_ | refine gc_N (fun _ => ?_) fun _ => ?_) | refine gc_tB ?_ | refine gc_fB ?_ | refine gc_tS ?_ | refine gc_fS ?_ | refine gc_B (fun _ => ?_) fun _ => ?_) | (show zR; first | (show zs; refine r_seq ?_) | (show zg; refine R_reg rfl ?_) | (show zd; refine y_cnd ?_) | refine r_ret ?_ | refine r_nop ?_ | refine r_blk ?_ | refine r_exit ?_ | fail) | refine k_seq_nrm ?_ | refine k_seq_ret ?_ | refine k_seq_exit ?_ | refine k_blk_nrm ?_ | refine k_blk_ret ?_ | refine k_blk_hit ?_ | refine k_blk_miss (by decide) ?_ | refine k_lp_ret ?_ | refine k_lp_exit ?_ | (show zk; refine y_fin ?_) | (show zj; refine is_ev ?_) | fail)
    all_goals exact ⟨_, _, rfl, hO, hf⟩
end Go.Abs
